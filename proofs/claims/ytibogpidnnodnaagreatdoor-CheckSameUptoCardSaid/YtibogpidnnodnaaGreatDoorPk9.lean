/- Joined texts: TellD, TellE, EqualF. -/
import Derived.Test.YtibogpidnnodnaaGreatDoorPk8
import Derived.Test.YtibogpidnnodnaaGreatDoorPk6
import Derived.Deep.RegionLaw
import Derived.Deep.DeepCutAuto
import Derived.Test.YtibogpidnnodnaaGreatDoorPk7
/- The walk of layer 20's list: attributes told. -/
namespace Go.Proofs.YtibogpidnnodnaaGreatDoor
open Go.RowKit Go.Deep

set_option maxRecDepth 100000 in
set_option maxHeartbeats 8000000 in
theorem attrs_tell (w0 w : World) (b : Nat) (t : Tl) (y : Atr) (cs : List Value) (hr : Atr.rd w0 cs y) (hg : y.good) (hB : Below w0.heap.size w0 w) (h : TBox w w0.heap.size b t) (hsz : t.1.length + t.2.length + (tlAtr y).size ≤ 100000000) :
    Calls Tryz.prog 45 #[.pointer (some ⟨b, 0, none⟩), .agg cs.toArray] w fun e w' => e = .returned (.tuple #[]) ∧ TBox w' w0.heap.size b (t.add (tlAtr y)) ∧ Below w0.heap.size w w' ∧ Still w w' := by
  have hcode := hr.2.2.1
  obtain ⟨B2, d2, B3, d3, B5, d5, B6, d6, Bt, dt, Bi, di, rfl, _, _, _, _, ⟨st, zt⟩, ⟨si, zi⟩⟩ := Atr.leafs hr
  have HC := Lib.hid hcode
  have hbs := hB.size
  have k1 := (Below.refl w.heap.size w).alloc (Nat.le_refl _) (.cells #[.int .i64 y.has, .int .i64 y.code.stack, .int .i64 y.code.locals, .slice B2 y.code.ops.length d2, .slice B3 y.code.handlers.length d3, .int .i64 y.code.has, .slice B5 y.code.lines.length d5, .slice B6 y.code.slots.length d6, .int .i64 y.value.tag, .string (bs y.value.text), .int .u64 y.value.bits, .string (bs y.value.cls), .string (bs y.value.name), .string (bs y.value.desc), .slice Bt y.throws.length dt, .slice Bi y.inners.length di, .string (bs y.signature), .string (bs y.source)] 35)
  have HX := Lib.hid (heap_alloc_new w (.cells #[.int .i64 y.has, .int .i64 y.code.stack, .int .i64 y.code.locals, .slice B2 y.code.ops.length d2, .slice B3 y.code.handlers.length d3, .int .i64 y.code.has, .slice B5 y.code.lines.length d5, .slice B6 y.code.slots.length d6, .int .i64 y.value.tag, .string (bs y.value.text), .int .u64 y.value.bits, .string (bs y.value.cls), .string (bs y.value.name), .string (bs y.value.desc), .slice Bt y.throws.length dt, .slice Bi y.inners.length di, .string (bs y.signature), .string (bs y.source)] 35))
  have HT := Lib.hid (h.grow k1)
  have K1 := Lib.hid (k1.mono hbs)
  have S1 := Lib.hid (still_below k1)
  have hz1 := Nat.le_trans hbs k1.size
  have HSt := Lib.hid st
  have HSv := Lib.hid si
  have HB := Lib.hid hB
  clear k1 h st si hB hr hcode
  go_enter Tryz.func45, Tryz.ntmps45
  go_upto_region 1 with fail
  generalize w.alloc (.cells #[.int .i64 y.has, .int .i64 y.code.stack, .int .i64 y.code.locals, .slice B2 y.code.ops.length d2, .slice B3 y.code.handlers.length d3, .int .i64 y.code.has, .slice B5 y.code.lines.length d5, .slice B6 y.code.slots.length d6, .int .i64 y.value.tag, .string (bs y.value.text), .int .u64 y.value.bits, .string (bs y.value.cls), .string (bs y.value.name), .string (bs y.value.desc), .slice Bt y.throws.length dt, .slice Bi y.inners.length di, .string (bs y.signature), .string (bs y.source)] 35) = W at HX HT K1 S1 hz1 ⊢
  have hq := (Array.getElem?_eq_some_iff.1 HX.out).1
  have d0 : W.cell? ⟨w.heap.size, 0, none⟩ = some (.int .i64 y.has) := by rw [Lib.cell_of_heap HX.out]; rfl
  have d15 : W.cell? ⟨w.heap.size, 15, none⟩ = some (.slice Bi y.inners.length di) := by rw [Lib.cell_of_heap HX.out]; rfl
  have k2 := (Below.refl W.heap.size W).alloc (Nat.le_refl _) (.cells #[.int .i64 y.has, .int .i64 (y.inners.length : Int)] 3)
  have C1 := Lib.hid (ints_tell w0.heap.size b 2 (some ⟨W.heap.size, 0, none⟩) t [y.has, (y.inners.length : Int)] _ (HT.out.grow k2) (ints_new (heap_alloc_new W (.cells #[.int .i64 y.has, .int .i64 (y.inners.length : Int)] 3)) [y.has, (y.inners.length : Int)] rfl) (by simp only [List.length_cons, List.length_nil]; omega) (Nat.le_trans hz1 k2.size))
  have K2 := Lib.hid (k2.mono hz1)
  have S2 := Lib.hid (still_below k2)
  clear k2
  go_upto_region 2 with fail
  refine C1.out.mono ?_
  rintro e x1 ⟨rfl, t1, b1, s1⟩
  have HT1 := Lib.hid t1
  have K3 := Lib.hid (K1.out.trans (K2.out.trans b1))
  have S3 := Lib.hid (S1.out.trans (S2.out.trans s1))
  have HX3 := Lib.hid ((S2.out.trans s1) _ _ _ _ HX.out (by decide) (by decide) (by decide))
  clear t1 b1 s1 C1 K1 K2 S1 S2 HX HT d0 d15 hq hz1
  have e1 : x1.cell? ⟨w.heap.size, 1, none⟩ = some (.int .i64 y.code.stack) := by rw [Lib.cell_of_heap HX3.out]; rfl
  have e2 : x1.cell? ⟨w.heap.size, 2, none⟩ = some (.int .i64 y.code.locals) := by rw [Lib.cell_of_heap HX3.out]; rfl
  have e3 : x1.cell? ⟨w.heap.size, 3, none⟩ = some (.slice B2 y.code.ops.length d2) := by rw [Lib.cell_of_heap HX3.out]; rfl
  have e4 : x1.cell? ⟨w.heap.size, 4, none⟩ = some (.slice B3 y.code.handlers.length d3) := by rw [Lib.cell_of_heap HX3.out]; rfl
  have e5 : x1.cell? ⟨w.heap.size, 5, none⟩ = some (.int .i64 y.code.has) := by rw [Lib.cell_of_heap HX3.out]; rfl
  have e6 : x1.cell? ⟨w.heap.size, 6, none⟩ = some (.slice B5 y.code.lines.length d5) := by rw [Lib.cell_of_heap HX3.out]; rfl
  have e7 : x1.cell? ⟨w.heap.size, 7, none⟩ = some (.slice B6 y.code.slots.length d6) := by rw [Lib.cell_of_heap HX3.out]; rfl
  have hz3 := Nat.le_trans hbs K3.out.size
  have hsa := atr_sizes y
  have n1 : (t.add (tlInts [y.has, (y.inners.length : Int)])).1.length = t.1.length + 2 ∧ (t.add (tlInts [y.has, (y.inners.length : Int)])).2.length = t.2.length := by simp [Tl.add, tlInts]
  have C2 := Lib.hid (code_tell w0 x1 b _ y.code _ HC.out hg.2.1 (HB.out.trans K3.out) HT1.out (by rw [n1.1, n1.2]; omega))
  go_upto_region 2 with fail
  go_upto_region 3 with fail
  refine C2.out.mono ?_
  rintro e x2 ⟨rfl, t2, b2, s2⟩
  have HT2 := Lib.hid t2
  have K4 := Lib.hid (K3.out.trans b2)
  have S4 := Lib.hid (S3.out.trans s2)
  have HX4 := Lib.hid (s2 _ _ _ _ HX3.out (by decide) (by decide) (by decide))
  have hz4 := Nat.le_trans hz3 b2.size
  clear t2 b2 s2 C2 S3 HX3 HT1 e1 e2 e3 e4 e5 e6 e7
  have e8 : x2.cell? ⟨w.heap.size, 8, none⟩ = some (.int .i64 y.value.tag) := by rw [Lib.cell_of_heap HX4.out]; rfl
  have e9 : x2.cell? ⟨w.heap.size, 9, none⟩ = some (.string (bs y.value.text)) := by rw [Lib.cell_of_heap HX4.out]; rfl
  have e10 : x2.cell? ⟨w.heap.size, 10, none⟩ = some (.int .u64 y.value.bits) := by rw [Lib.cell_of_heap HX4.out]; rfl
  have e11 : x2.cell? ⟨w.heap.size, 11, none⟩ = some (.string (bs y.value.cls)) := by rw [Lib.cell_of_heap HX4.out]; rfl
  have e12 : x2.cell? ⟨w.heap.size, 12, none⟩ = some (.string (bs y.value.name)) := by rw [Lib.cell_of_heap HX4.out]; rfl
  have e13 : x2.cell? ⟨w.heap.size, 13, none⟩ = some (.string (bs y.value.desc)) := by rw [Lib.cell_of_heap HX4.out]; rfl
  have n2 : ((t.add (tlInts [y.has, (y.inners.length : Int)])).add (tlCode y.code)).1.length + ((t.add (tlInts [y.has, (y.inners.length : Int)])).add (tlCode y.code)).2.length = t.1.length + t.2.length + 2 + ((tlCode y.code).1.length + (tlCode y.code).2.length) := by rw [len_add, len_add]; simp [tlInts]
  have n3 := len_size (tlCode y.code)
  have C3 := Lib.hid (value_tell w0.heap.size b _ y.value x2 HT2.out hg.2.2.1 (by omega) (by omega) hz4)
  go_upto_region 3 with fail
  go_upto_region 4 with fail
  refine C3.out.mono ?_
  rintro e x3 ⟨rfl, t3, b3, s3⟩
  have HT3 := Lib.hid t3
  have K5 := Lib.hid (K4.out.trans b3)
  have S5 := Lib.hid (S4.out.trans s3)
  have HX5 := Lib.hid (s3 _ _ _ _ HX4.out (by decide) (by decide) (by decide))
  have hz5 := Nat.le_trans hz4 b3.size
  clear t3 b3 s3 C3 S4 HX4 HT2 e8 e9 e10 e11 e12 e13
  have n4 : (((t.add (tlInts [y.has, (y.inners.length : Int)])).add (tlCode y.code)).add (tlVal y.value)).1.length + (((t.add (tlInts [y.has, (y.inners.length : Int)])).add (tlCode y.code)).add (tlVal y.value)).2.length = t.1.length + t.2.length + 2 + ((tlCode y.code).1.length + (tlCode y.code).2.length) + ((tlVal y.value).1.length + (tlVal y.value).2.length) := by rw [len_add, n2]
  have n5 := len_size (tlVal y.value)
  have n6 := size_texts y.throws
  have n7 := len_size (tlTexts y.throws)
  have n8 : (tlTexts y.throws).2.length = y.throws.length := rfl
  have e14 : x3.cell? ⟨w.heap.size, 14, none⟩ = some (.slice Bt y.throws.length dt) := by rw [Lib.cell_of_heap HX5.out]; rfl
  have C4 := Lib.hid (texts_tell w0.heap.size b dt Bt _ y.throws x3 HT3.out (HSt.out.grow (HB.out.trans K5.out)) (fun hp g' o' e => by obtain ⟨g, o, eq, hgl, _⟩ := HSt.out.2 hp; rw [eq] at e; cases e; exact .inl hgl) (by omega) (by omega) hz5)
  go_upto_region 4 with fail
  go_upto_region 5 with fail
  refine C4.out.mono ?_
  rintro e x4 ⟨rfl, t4, b4, s4⟩
  have K6 := Lib.hid (K5.out.trans b4)
  have S6 := Lib.hid (S5.out.trans s4)
  have HX6 := Lib.hid (s4 _ _ _ _ HX5.out (by decide) (by decide) (by decide))
  have hz6 := Nat.le_trans hz5 b4.size
  obtain ⟨UV, hu5⟩ : ∃ z, z = (((t.add (tlInts [y.has, (y.inners.length : Int)])).add (tlCode y.code)).add (tlVal y.value)).add (tlTexts y.throws) := ⟨_, rfl⟩
  rw [← hu5] at t4
  have HV5 := Lib.hid hu5
  have HR5 := Lib.hid (fun (i : Nat) => inr_room t UV y hu5 hsz i)
  have HT6 := Lib.hid t4
  clear t4 b4 s4 C4 S5 K5 HX5 HT3 e14 hu5 n1 n2 n3 n4 n5 n6 n7 n8 hz3 hz4 hz5
  have e15 : x4.cell? ⟨w.heap.size, 15, none⟩ = some (.slice Bi y.inners.length di) := by rw [Lib.cell_of_heap HX6.out]; rfl
  have hq4 := (Array.getElem?_eq_some_iff.1 HX6.out).1
  go_upto_region 6 with fail
  clear e15 hq4
  have KK6 := K6
  have SS6 := S6
  clear K6 S6
  go_loopw [29] (fun u wr => ∃ i : Nat, i ≤ y.inners.length ∧ u = .int .i64 i ∧ TBox wr w0.heap.size b (UV.add (tlAll tlInr (y.inners.take i))) ∧ Below w0.heap.size w wr ∧ Still w wr ∧ wr.heap[w.heap.size]? = some (.cells #[.int .i64 y.has, .int .i64 y.code.stack, .int .i64 y.code.locals, .slice B2 y.code.ops.length d2, .slice B3 y.code.handlers.length d3, .int .i64 y.code.has, .slice B5 y.code.lines.length d5, .slice B6 y.code.slots.length d6, .int .i64 y.value.tag, .string (bs y.value.text), .int .u64 y.value.bits, .string (bs y.value.cls), .string (bs y.value.name), .string (bs y.value.desc), .slice Bt y.throws.length dt, .slice Bi y.inners.length di, .string (bs y.signature), .string (bs y.source)] 35)) (fun u _ => y.inners.length - (intOf u).toNat)
  case atStart => exact ⟨0, Nat.zero_le _, rfl, by simpa [tlAll, Tl.add_nil] using HT6.out, KK6.out, SS6.out, HX6.out⟩
  case round =>
    obtain ⟨i, hil, rfl, hT, hK, hS, hH⟩ := hrel
    have HKi := Lib.hid hK
    have HSi := Lib.hid hS
    have HHi := Lib.hid hH
    by_cases h1 : i < y.inners.length
    · obtain ⟨g, o, x, cx, rfl, hgw, hx, hrx, hcl, hcx⟩ := HSv.out.at_ h1
      have hsi := HR5.out i
      have HSN := Lib.hid (tlAll_snoc tlInr hx)
      obtain ⟨TA, hTA⟩ : ∃ TA, TA = UV.add (tlAll tlInr (y.inners.take i)) := ⟨_, rfl⟩
      rw [← hTA] at hT hsi
      have HTi := Lib.hid hT
      have HTA := Lib.hid hTA
      clear hTA
      have hcw := hcx.grow (HB.out.trans HKi.out) hgw
      obtain rfl := Inr.leafs hrx
      have hgr : g < wr.heap.size := Nat.lt_of_lt_of_le hgw (HB.out.trans HKi.out).size
      have f0 := hcw 0 _ rfl
      have f1 := hcw 1 _ rfl
      have f2 := hcw 2 _ rfl
      have f3 := hcw 3 _ rfl
      rw [Nat.add_zero] at f0
      clear hT hK hS hH hcw hcx hrx
      go_upto_region 8 with fail
      have k4 := (Below.refl wr.heap.size wr).alloc (Nat.le_refl _) (.cells #[.string (bs x.cls), .string (bs x.outer), .string (bs x.name), .int .i64 x.flags] 86)
      have HX4 := Lib.hid (heap_alloc_new wr (.cells #[.string (bs x.cls), .string (bs x.outer), .string (bs x.name), .int .i64 x.flags] 86))
      have hzr := Nat.le_trans hbs HKi.out.size
      have HT4 := Lib.hid (HTi.out.grow k4)
      have K4 := Lib.hid (HKi.out.trans (k4.mono hzr))
      have S4 := Lib.hid (HSi.out.trans (still_below k4))
      have HH4 := Lib.hid ((k4.block w.heap.size (Array.getElem?_eq_some_iff.1 HHi.out).1).trans HHi.out)
      have hz4 := Nat.le_trans hzr k4.size
      clear k4 f0 f1 f2 f3 HTi HKi HSi HHi
      generalize hW4 : wr.alloc (.cells #[.string (bs x.cls), .string (bs x.outer), .string (bs x.name), .int .i64 x.flags] 86) = W4 at HX4 HT4 K4 S4 HH4 hz4 ⊢
      clear hW4
      have l3 : W4.cell? ⟨wr.heap.size, 3, none⟩ = some (.int .i64 x.flags) := by rw [Lib.cell_of_heap HX4.out]; rfl
      have hl4 := (Array.getElem?_eq_some_iff.1 HX4.out).1
      have k5 := (Below.refl W4.heap.size W4).alloc (Nat.le_refl _) (.cells #[.int .i64 x.flags] 3)
      have C5 := Lib.hid (ints_tell w0.heap.size b 1 (some ⟨W4.heap.size, 0, none⟩) _ [x.flags] _ (HT4.out.grow k5) (ints_new (heap_alloc_new W4 (.cells #[.int .i64 x.flags] 3)) [x.flags] rfl) (by simp only [List.length_cons, List.length_nil]; omega) (Nat.le_trans hz4 k5.size))
      have K5 := Lib.hid (k5.mono hz4)
      have S5 := Lib.hid (still_below k5)
      clear k5
      go_upto_region 9 with fail
      refine C5.out.mono ?_
      rintro e x2 ⟨rfl, t2, b2, s2⟩
      have HT5 := Lib.hid t2
      have K6 := Lib.hid (K4.out.trans (K5.out.trans b2))
      have S6 := Lib.hid (S4.out.trans (S5.out.trans s2))
      have HX6 := Lib.hid ((S5.out.trans s2) _ _ _ _ HX4.out (by decide) (by decide) (by decide))
      have HH6 := Lib.hid ((S5.out.trans s2) _ _ _ _ HH4.out (by decide) (by decide) (by decide))
      have hz6 := Nat.le_trans hz4 (Nat.le_trans K5.out.size b2.size)
      clear t2 b2 s2 C5 K4 S4 K5 S5 HX4 HH4 HT4 l3 hl4
      have m0 : x2.cell? ⟨wr.heap.size, 0, none⟩ = some (.string (bs x.cls)) := by rw [Lib.cell_of_heap HX6.out]; rfl
      have m1 : x2.cell? ⟨wr.heap.size, 1, none⟩ = some (.string (bs x.outer)) := by rw [Lib.cell_of_heap HX6.out]; rfl
      have m2 : x2.cell? ⟨wr.heap.size, 2, none⟩ = some (.string (bs x.name)) := by rw [Lib.cell_of_heap HX6.out]; rfl
      have hl6 := (Array.getElem?_eq_some_iff.1 HX6.out).1
      have n5 : (TA.add (tlInts [x.flags])).1.length = TA.1.length + 1 ∧ (TA.add (tlInts [x.flags])).2.length = TA.2.length := by simp [Tl.add, tlInts]
      have k7 := (Below.refl x2.heap.size x2).alloc (Nat.le_refl _) (.cells #[.string (bs x.cls), .string (bs x.outer), .string (bs x.name)] 9)
      have C7 := Lib.hid (texts_tell w0.heap.size b 3 (some ⟨x2.heap.size, 0, none⟩) _ [x.cls, x.outer, x.name] _ (HT5.out.grow k7) (txt_new (heap_alloc_new x2 (.cells #[.string (bs x.cls), .string (bs x.outer), .string (bs x.name)] 9)) [x.cls, x.outer, x.name] rfl) (fun _ => txtAt_new (heap_alloc_new x2 (.cells #[.string (bs x.cls), .string (bs x.outer), .string (bs x.name)] 9))) (by rw [n5.1]; omega) (by rw [n5.2]; simp only [List.length_cons, List.length_nil]; omega) (Nat.le_trans hz6 k7.size))
      have K7 := Lib.hid (k7.mono hz6)
      have S7 := Lib.hid (still_below k7)
      clear k7
      go_upto_region 9 with fail
      go_upto_region 10 with fail
      refine C7.out.mono ?_
      rintro e x3 ⟨rfl, t3, b3, s3⟩
      have HT7 := Lib.hid t3
      have K8 := Lib.hid (K6.out.trans (K7.out.trans b3))
      have S8 := Lib.hid (S6.out.trans (S7.out.trans s3))
      have HH8 := Lib.hid ((S7.out.trans s3) _ _ _ _ HH6.out (by decide) (by decide) (by decide))
      clear t3 b3 s3 C7 K6 S6 K7 S7 HX6 HH6 HT5 m0 m1 m2 hl6
      have HF := Lib.hid (show (TA.add (tlInts [x.flags])).add (tlTexts [x.cls, x.outer, x.name]) = UV.add (tlAll tlInr (y.inners.take (i + 1))) by rw [HSN.out, HTA.out]; simp only [tlInr, Tl.add_assoc])
      go_wp2_with fail
      have hwr := wrap_next h1 (hg.2.2.2.2.1.1)
      refine ⟨⟨i + 1, h1, by rw [hwr], by rw [← HF.out]; exact HT7.out, K8.out, S8.out, HH8.out⟩, ?_⟩
      rw [hwr]
      exact less_next h1
    · have hie : i = y.inners.length := by omega
      subst hie
      rw [List.take_length] at hT
      have HT7 := Lib.hid hT
      have KK7 := Lib.hid hK
      have SS7 := Lib.hid hS
      have HX7 := Lib.hid hH
      clear hT hK hS hH
      have hz7 := Nat.le_trans hbs KK7.out.size
      have e16 : wr.cell? ⟨w.heap.size, 16, none⟩ = some (.string (bs y.signature)) := by rw [Lib.cell_of_heap HX7.out]; rfl
      have e17 : wr.cell? ⟨w.heap.size, 17, none⟩ = some (.string (bs y.source)) := by rw [Lib.cell_of_heap HX7.out]; rfl
      have hq7 := (Array.getElem?_eq_some_iff.1 HX7.out).1
      have k7 := (Below.refl wr.heap.size wr).alloc (Nat.le_refl _) (.cells #[.string (bs y.signature), .string (bs y.source)] 9)
      have hr5 := HR5.out y.inners.length
      rw [List.take_length] at hr5
      have C7 := Lib.hid (texts_tell w0.heap.size b 2 (some ⟨wr.heap.size, 0, none⟩) _ [y.signature, y.source] _ (HT7.out.grow k7) (txt_new (heap_alloc_new wr (.cells #[.string (bs y.signature), .string (bs y.source)] 9)) [y.signature, y.source] rfl) (fun _ => txtAt_new (heap_alloc_new wr (.cells #[.string (bs y.signature), .string (bs y.source)] 9))) (by omega) (by simp only [List.length_cons, List.length_nil]; omega) (Nat.le_trans hz7 k7.size))
      have K7 := Lib.hid (k7.mono hz7)
      have S7 := Lib.hid (still_below k7)
      clear k7
      have HE := Lib.hid (show (UV.add (tlAll tlInr y.inners)).add (tlTexts [y.signature, y.source]) = t.add (tlAtr y) by rw [HV5.out]; simp only [tlAtr, Tl.add_assoc])
      go_wp2_with fail
      refine C7.out.mono ?_
      rintro e x8 ⟨rfl, t8, b8, s8⟩
      rw [HE.out] at t8
      have HT8 := Lib.hid t8
      have K8 := Lib.hid (KK7.out.trans (K7.out.trans b8))
      have S8 := Lib.hid (SS7.out.trans (S7.out.trans s8))
      clear t8 b8 s8 e16 e17 hq7 C7 K7 S7 HX7
      go_wp2_with fail
      go_end0
      exact ⟨rfl, HT8.out, K8.out, S8.out⟩
end Go.Proofs.YtibogpidnnodnaaGreatDoor

/- The walk of layer 20's list: a class told in whole. Printed by mk_told.py. -/
namespace Go.Proofs.YtibogpidnnodnaaGreatDoor
open Go.RowKit Go.Deep

theorem mbr_one {w : World} (cs : List Value) (y : Mbr) (h : Mbr.rd w cs y) : ∀ u ∈ cs, u.oneCell' = true := by
  obtain ⟨A0, c0, A1, c1, A2, c2, A3, c3, A4, c4, A5, c5, rfl, _⟩ := Mbr.leafs h
  intro u hu
  simp only [List.mem_cons, List.not_mem_nil, or_false] at hu
  rcases hu with rfl | rfl | rfl | rfl | rfl | rfl | rfl | rfl | rfl | rfl | rfl | rfl | rfl | rfl | rfl | rfl | rfl | rfl | rfl | rfl | rfl <;> rfl
theorem told_fresh {w : World} {g base : Nat} (h : w.heap[g]? = some (.cells #[.slice none 0 0, .slice none 0 0] 51 (0, 0))) (hb : base ≤ g) : TBox w base g ([], []) :=
  ⟨_, _, h, hb, World.ownsRow_nil w base 3 1, World.ownsRow_nil w base 9 1⟩
theorem cls_sizes (y : Cls) : (tlCls y).size = 5 + (tlTexts [y.this, y.super]).size + (tlTexts y.faces).size + (tlAll tlMbr (y.fields ++ y.methods)).size + (tlAtr y.attrs).size := by
  simp only [tlCls, Tl.size_add, size_ints, List.length_cons, List.length_nil]
theorem size_all_len {α : Type} (f : α → Tl) (h : ∀ x, 1 ≤ (f x).size) : ∀ xs : List α, xs.length ≤ (tlAll f xs).size
  | [] => Nat.zero_le _
  | x :: xs => by
    have := size_all_len f h xs
    have := h x
    simp only [tlAll, Tl.size_add, List.length_cons]
    omega
theorem mbr_sizes (x : Mbr) : (tlMbr x).size = 1 + (tlTexts [x.name, x.desc]).size + (tlAtr x.attrs).size := by
  simp only [tlMbr, Tl.size_add, size_ints, List.length_cons, List.length_nil]
theorem mbrs_few (y : Cls) : y.fields.length + y.methods.length ≤ (tlCls y).size := by
  have h1 := size_all_len tlMbr (fun x => by rw [mbr_sizes]; omega) (y.fields ++ y.methods)
  rw [cls_sizes]
  rw [List.length_append] at h1
  omega
theorem texts_len (ss : List (List UInt8)) : ss.length + 1 ≤ (tlTexts ss).size := by
  have h := len_size (tlTexts ss)
  have e : (tlTexts ss).1.length + (tlTexts ss).2.length = ss.length + 1 := by simp [tlTexts]; omega
  omega
/-- Ahead of a member's attributes there is room. -/
theorem mbr_room (uv : Tl) (y : Cls) (L : List Mbr) (hL : L = y.fields ++ y.methods) (e : uv = (((tlInts [y.minor, y.major, y.flags, (y.fields.length : Int), (y.methods.length : Int)]).add (tlTexts [y.this, y.super])).add (tlTexts y.faces)))
    (h : (tlCls y).size ≤ 100000000) (i : Nat) (x : Mbr) (hx : L[i]? = some x) :
    (uv.add (tlAll tlMbr (L.take i))).1.length + (uv.add (tlAll tlMbr (L.take i))).2.length + (tlMbr x).size ≤ 100000000 := by
  have h1 := len_size (tlAll tlMbr (L.take i))
  have h2 : (tlAll tlMbr (L.take i)).size + (tlMbr x).size ≤ (tlAll tlMbr L).size := by
    have h3 := size_take tlMbr L (i + 1)
    rw [tlAll_snoc tlMbr hx, Tl.size_add] at h3
    exact h3
  have h4 := len_size (tlInts [y.minor, y.major, y.flags, (y.fields.length : Int), (y.methods.length : Int)])
  have h5 := len_size (tlTexts [y.this, y.super])
  have h6 := len_size (tlTexts y.faces)
  rw [size_ints] at h4
  simp only [List.length_cons, List.length_nil] at h4
  rw [cls_sizes, ← hL] at h
  rw [len_add, e, len_add, len_add]
  omega
theorem cls_room (uv : Tl) (y : Cls) (L : List Mbr) (hL : L = y.fields ++ y.methods) (e : uv = (((tlInts [y.minor, y.major, y.flags, (y.fields.length : Int), (y.methods.length : Int)]).add (tlTexts [y.this, y.super])).add (tlTexts y.faces)))
    (h : (tlCls y).size ≤ 100000000) : (uv.add (tlAll tlMbr L)).1.length + (uv.add (tlAll tlMbr L)).2.length + (tlAtr y.attrs).size ≤ 100000000 := by
  have h1 := len_size (tlAll tlMbr L)
  have h4 := len_size (tlInts [y.minor, y.major, y.flags, (y.fields.length : Int), (y.methods.length : Int)])
  have h5 := len_size (tlTexts [y.this, y.super])
  have h6 := len_size (tlTexts y.faces)
  rw [size_ints] at h4
  simp only [List.length_cons, List.length_nil] at h4
  rw [cls_sizes, ← hL] at h
  rw [len_add, e, len_add, len_add]
  omega
/-- What stands ahead of a member's attributes. -/
theorem mbr_head (TA : Tl) (x : Mbr) : ((TA.add (tlInts [x.flags])).add (tlTexts [x.name, x.desc])).1.length + ((TA.add (tlInts [x.flags])).add (tlTexts [x.name, x.desc])).2.length + (tlAtr x.attrs).size ≤ TA.1.length + TA.2.length + (tlMbr x).size := by
  have h5 := len_size (tlTexts [x.name, x.desc])
  rw [len_add, len_add, mbr_sizes]
  have : (tlInts [x.flags]).1.length + (tlInts [x.flags]).2.length = 1 := rfl
  omega

set_option maxRecDepth 100000 in
set_option maxHeartbeats 8000000 in
theorem told_any (w : World) (y : Cls) (cs : List Value) (hr : Cls.rd w cs y) (hg : y.good) (hsz : (tlCls y).size ≤ 100000000) :
    Calls Tryz.prog 11 #[.agg cs.toArray] w fun e w' => ∃ g, e = .returned (.pointer (some ⟨g, 0, none⟩)) ∧ TBox w' w.heap.size g (tlCls y) ∧ Below w.heap.size w w' := by
  have hatr : Atr.rd w ((cs.drop 8).take 18) y.attrs := hr.2.2.2.2.2.2.2.2.2
  have HATR := Lib.hid hatr
  obtain ⟨B5, d5, B6, d6, B7, d7, C0, e0, C1, e1, C2, e2, C3, e3, C4, e4, C5, e5, rfl, ⟨s5, _⟩, ⟨s6, _⟩, ⟨s7, _⟩, _⟩ := Cls.leafs hr
  have HF5 := Lib.hid s5
  have HM6 := Lib.hid s6
  have HM7 := Lib.hid s7
  have hfew := mbrs_few y
  have k1 := (Below.refl w.heap.size w).alloc (Nat.le_refl _) (.cells #[.int .i64 y.minor, .int .i64 y.major, .int .i64 y.flags, .string (bs y.this), .string (bs y.super), .slice B5 y.faces.length d5, .slice B6 y.fields.length d6, .slice B7 y.methods.length d7, .int .i64 y.attrs.has, .int .i64 y.attrs.code.stack, .int .i64 y.attrs.code.locals, .slice C0 y.attrs.code.ops.length e0, .slice C1 y.attrs.code.handlers.length e1, .int .i64 y.attrs.code.has, .slice C2 y.attrs.code.lines.length e2, .slice C3 y.attrs.code.slots.length e3, .int .i64 y.attrs.value.tag, .string (bs y.attrs.value.text), .int .u64 y.attrs.value.bits, .string (bs y.attrs.value.cls), .string (bs y.attrs.value.name), .string (bs y.attrs.value.desc), .slice C4 y.attrs.throws.length e4, .slice C5 y.attrs.inners.length e5, .string (bs y.attrs.signature), .string (bs y.attrs.source)] 37)
  have HX := Lib.hid (heap_alloc_new w (.cells #[.int .i64 y.minor, .int .i64 y.major, .int .i64 y.flags, .string (bs y.this), .string (bs y.super), .slice B5 y.faces.length d5, .slice B6 y.fields.length d6, .slice B7 y.methods.length d7, .int .i64 y.attrs.has, .int .i64 y.attrs.code.stack, .int .i64 y.attrs.code.locals, .slice C0 y.attrs.code.ops.length e0, .slice C1 y.attrs.code.handlers.length e1, .int .i64 y.attrs.code.has, .slice C2 y.attrs.code.lines.length e2, .slice C3 y.attrs.code.slots.length e3, .int .i64 y.attrs.value.tag, .string (bs y.attrs.value.text), .int .u64 y.attrs.value.bits, .string (bs y.attrs.value.cls), .string (bs y.attrs.value.name), .string (bs y.attrs.value.desc), .slice C4 y.attrs.throws.length e4, .slice C5 y.attrs.inners.length e5, .string (bs y.attrs.signature), .string (bs y.attrs.source)] 37))
  have K1 := Lib.hid k1
  have hz1 := k1.size
  have hz1b : w.heap.size < (w.alloc (.cells #[.int .i64 y.minor, .int .i64 y.major, .int .i64 y.flags, .string (bs y.this), .string (bs y.super), .slice B5 y.faces.length d5, .slice B6 y.fields.length d6, .slice B7 y.methods.length d7, .int .i64 y.attrs.has, .int .i64 y.attrs.code.stack, .int .i64 y.attrs.code.locals, .slice C0 y.attrs.code.ops.length e0, .slice C1 y.attrs.code.handlers.length e1, .int .i64 y.attrs.code.has, .slice C2 y.attrs.code.lines.length e2, .slice C3 y.attrs.code.slots.length e3, .int .i64 y.attrs.value.tag, .string (bs y.attrs.value.text), .int .u64 y.attrs.value.bits, .string (bs y.attrs.value.cls), .string (bs y.attrs.value.name), .string (bs y.attrs.value.desc), .slice C4 y.attrs.throws.length e4, .slice C5 y.attrs.inners.length e5, .string (bs y.attrs.signature), .string (bs y.attrs.source)] 37)).heap.size := (Array.getElem?_eq_some_iff.1 HX.out).1
  clear k1 hatr s5 s6 s7 hr
  go_enter Tryz.func11, Tryz.ntmps11
  go_upto_region 1 with fail
  generalize w.alloc (.cells #[.int .i64 y.minor, .int .i64 y.major, .int .i64 y.flags, .string (bs y.this), .string (bs y.super), .slice B5 y.faces.length d5, .slice B6 y.fields.length d6, .slice B7 y.methods.length d7, .int .i64 y.attrs.has, .int .i64 y.attrs.code.stack, .int .i64 y.attrs.code.locals, .slice C0 y.attrs.code.ops.length e0, .slice C1 y.attrs.code.handlers.length e1, .int .i64 y.attrs.code.has, .slice C2 y.attrs.code.lines.length e2, .slice C3 y.attrs.code.slots.length e3, .int .i64 y.attrs.value.tag, .string (bs y.attrs.value.text), .int .u64 y.attrs.value.bits, .string (bs y.attrs.value.cls), .string (bs y.attrs.value.name), .string (bs y.attrs.value.desc), .slice C4 y.attrs.throws.length e4, .slice C5 y.attrs.inners.length e5, .string (bs y.attrs.signature), .string (bs y.attrs.source)] 37) = W at HX K1 hz1 hz1b ⊢
  have k2 := (Below.refl W.heap.size W).alloc (Nat.le_refl _) (.cells #[.slice none 0 0, .slice none 0 0] 51)
  have HT := Lib.hid (told_fresh (base := w.heap.size) (heap_alloc_new W (.cells #[.slice none 0 0, .slice none 0 0] 51)) hz1)
  have K2 := Lib.hid (K1.out.trans (k2.mono hz1))
  have S2 := Lib.hid (still_below k2)
  have HX2 := Lib.hid ((k2.block w.heap.size hz1b).trans HX.out)
  have hz2 := Nat.le_trans hz1 k2.size
  clear k2 K1 HX
  go_upto_region 2 with fail
  generalize hW2 : W.alloc (.cells #[.slice none 0 0, .slice none 0 0] 51) = W2 at HT K2 S2 HX2 hz2 ⊢
  generalize W.heap.size = g at HT ⊢
  clear hW2 S2
  have f0 : W2.cell? ⟨w.heap.size, 0, none⟩ = some (.int .i64 y.minor) := by rw [Lib.cell_of_heap HX2.out]; rfl
  have f1 : W2.cell? ⟨w.heap.size, 1, none⟩ = some (.int .i64 y.major) := by rw [Lib.cell_of_heap HX2.out]; rfl
  have f2 : W2.cell? ⟨w.heap.size, 2, none⟩ = some (.int .i64 y.flags) := by rw [Lib.cell_of_heap HX2.out]; rfl
  have f6 : W2.cell? ⟨w.heap.size, 6, none⟩ = some (.slice B6 y.fields.length d6) := by rw [Lib.cell_of_heap HX2.out]; rfl
  have f7 : W2.cell? ⟨w.heap.size, 7, none⟩ = some (.slice B7 y.methods.length d7) := by rw [Lib.cell_of_heap HX2.out]; rfl
  have hq := (Array.getElem?_eq_some_iff.1 HX2.out).1
  have k3 := (Below.refl W2.heap.size W2).alloc (Nat.le_refl _) (.cells #[.int .i64 y.minor, .int .i64 y.major, .int .i64 y.flags, .int .i64 (y.fields.length : Int), .int .i64 (y.methods.length : Int)] 3)
  have CL1 := Lib.hid (ints_tell w.heap.size g 5 (some ⟨W2.heap.size, 0, none⟩) ([], []) [y.minor, y.major, y.flags, (y.fields.length : Int), (y.methods.length : Int)] _ (HT.out.grow k3) (ints_new (heap_alloc_new W2 (.cells #[.int .i64 y.minor, .int .i64 y.major, .int .i64 y.flags, .int .i64 (y.fields.length : Int), .int .i64 (y.methods.length : Int)] 3)) [y.minor, y.major, y.flags, (y.fields.length : Int), (y.methods.length : Int)] rfl) (by simp) (Nat.le_trans hz2 k3.size))
  have K3 := Lib.hid (k3.mono hz2)
  have S3 := Lib.hid (still_below k3)
  clear k3
  go_upto_region 3 with fail
  refine CL1.out.mono ?_
  rintro e x1 ⟨rfl, t1, b1, s1⟩
  rw [Tl.nil_add] at t1
  have HT1 := Lib.hid t1
  have K4 := Lib.hid (K2.out.trans (K3.out.trans b1))
  have HX3 := Lib.hid ((S3.out.trans s1) _ _ _ _ HX2.out (by decide) (by decide) (by decide))
  have hz3 := Nat.le_trans hz2 (Nat.le_trans K3.out.size b1.size)
  clear t1 b1 s1 CL1 K2 K3 S3 HX2 HT f0 f1 f2 f6 f7 hq hz1 hz1b hz2
  have f3 : x1.cell? ⟨w.heap.size, 3, none⟩ = some (.string (bs y.this)) := by rw [Lib.cell_of_heap HX3.out]; rfl
  have f4 : x1.cell? ⟨w.heap.size, 4, none⟩ = some (.string (bs y.super)) := by rw [Lib.cell_of_heap HX3.out]; rfl
  have hq := (Array.getElem?_eq_some_iff.1 HX3.out).1
  have k3 := (Below.refl x1.heap.size x1).alloc (Nat.le_refl _) (.cells #[.string (bs y.this), .string (bs y.super)] 9)
  have CL2 := Lib.hid (texts_tell w.heap.size g 2 (some ⟨x1.heap.size, 0, none⟩) _ [y.this, y.super] _ (HT1.out.grow k3) (txt_new (heap_alloc_new x1 (.cells #[.string (bs y.this), .string (bs y.super)] 9)) [y.this, y.super] rfl) (fun _ => txtAt_new (heap_alloc_new x1 (.cells #[.string (bs y.this), .string (bs y.super)] 9))) (by simp [tlInts]) (by simp [tlInts]) (Nat.le_trans hz3 k3.size))
  have K3 := Lib.hid (k3.mono hz3)
  have S3 := Lib.hid (still_below k3)
  clear k3
  go_upto_region 3 with fail
  go_upto_region 4 with fail
  refine CL2.out.mono ?_
  rintro e x2 ⟨rfl, t2, b2, s2⟩
  have HT2 := Lib.hid t2
  have K5 := Lib.hid (K4.out.trans (K3.out.trans b2))
  have HX4 := Lib.hid ((S3.out.trans s2) _ _ _ _ HX3.out (by decide) (by decide) (by decide))
  have hz4 := Nat.le_trans hz3 (Nat.le_trans K3.out.size b2.size)
  clear t2 b2 s2 CL2 K4 K3 S3 HX3 HT1 f3 f4 hq hz3
  have f5 : x2.cell? ⟨w.heap.size, 5, none⟩ = some (.slice B5 y.faces.length d5) := by rw [Lib.cell_of_heap HX4.out]; rfl
  have hq := (Array.getElem?_eq_some_iff.1 HX4.out).1
  have hsz2 := cls_sizes y
  have hfa := texts_len y.faces
  have n1 : ((tlInts [y.minor, y.major, y.flags, (y.fields.length : Int), (y.methods.length : Int)]).add (tlTexts [y.this, y.super])).1.length = 6 ∧ ((tlInts [y.minor, y.major, y.flags, (y.fields.length : Int), (y.methods.length : Int)]).add (tlTexts [y.this, y.super])).2.length = 2 := by simp [Tl.add, tlInts, tlTexts]
  have CL3 := Lib.hid (texts_tell w.heap.size g d5 B5 _ y.faces x2 HT2.out (HF5.out.grow K5.out) (fun hp g' o' e => by obtain ⟨g, o, eq, hgl, _⟩ := HF5.out.2 hp; rw [eq] at e; cases e; exact .inl hgl) (by rw [n1.1]; omega) (by rw [n1.2]; omega) hz4)
  go_upto_region 4 with fail
  go_upto_region 5 with fail
  refine CL3.out.mono ?_
  rintro e x3 ⟨rfl, t3, b3, s3⟩
  obtain ⟨UV, hUV⟩ : ∃ z, z = ((tlInts [y.minor, y.major, y.flags, (y.fields.length : Int), (y.methods.length : Int)]).add (tlTexts [y.this, y.super])).add (tlTexts y.faces) := ⟨_, rfl⟩
  obtain ⟨L, hL⟩ : ∃ z, z = y.fields ++ y.methods := ⟨_, rfl⟩
  rw [← hUV] at t3
  have HT3 := Lib.hid t3
  have K6 := Lib.hid (K5.out.trans b3)
  have HX5 := Lib.hid (s3 _ _ _ _ HX4.out (by decide) (by decide) (by decide))
  have hz5 := Nat.le_trans hz4 b3.size
  have HUV := Lib.hid hUV
  have HL := Lib.hid hL
  have HR := Lib.hid (fun (i : Nat) (x : Mbr) (hx : L[i]? = some x) => mbr_room UV y L hL hUV hsz i x hx)
  have HR2 := Lib.hid (cls_room UV y L hL hUV hsz)
  have HLg := Lib.hid (show L.length ≤ 100000000 from by rw [hL, List.length_append]; omega)
  have HLG := Lib.hid (show ∀ x ∈ L, x.good from fun x hx => by rw [hL] at hx; rcases List.mem_append.1 hx with h | h; exact hg.2.2.2.2.2.2.1.2 x h; exact hg.2.2.2.2.2.2.2.1.2 x h)
  have HLA := Lib.hid (show [] ++ y.fields ++ y.methods = L by rw [hL, List.nil_append])
  clear t3 b3 s3 CL3 K5 HX4 HT2 f5 hq hz4 n1 hsz2 hfa hUV hL
  have HS6 := Lib.hid (HM6.out.parts (by decide) Tryz.underlying23 mbr_one)
  have HS7 := Lib.hid (HM7.out.parts (by decide) Tryz.underlying23 mbr_one)
  have f6 : x3.cell? ⟨w.heap.size, 6, none⟩ = some (.slice B6 y.fields.length d6) := by rw [Lib.cell_of_heap HX5.out]; rfl
  have f7 : x3.cell? ⟨w.heap.size, 7, none⟩ = some (.slice B7 y.methods.length d7) := by rw [Lib.cell_of_heap HX5.out]; rfl
  have hq := (Array.getElem?_eq_some_iff.1 HX5.out).1
  have hL2 : y.fields.length + y.methods.length ≤ 100000000 := by omega
  have hL1 : y.fields.length ≤ 100000000 := by omega
  have HM3 := Lib.hid (Below.refl x3.heap.size x3)
  go_upto_region 5 with fail
  go_cut [40, 41, 42] (fun s40 s41 s42 wx => ∃ A2 c2, s40 = .slice A2 L.length c2 ∧ s41 = .int .i64 (L.length : Int) ∧ s42 = .int .i64 0 ∧ PAt 55 21 (Mbr.rd w) wx A2 L ∧ Below x3.heap.size x3 wx)
  case first =>
    as_aux_lemma =>
    go_region_law ((first
      | (refine step_appM (R := Mbr.rd w) rfl _ _ rfl x3.heap.size (.slice (some ⟨_, 0, none⟩) 0 0) [] rfl (prow_fresh (by (first | exact heap_alloc2_new _ _ _ | exact heap_alloc2_old _ _ _ | exact heap_alloc_new _ _)) (by (first | omega | (simp; done) | (simp; omega)))) _ y.fields rfl (let ⟨n, p, s⟩ := HS6.out; ⟨n, p, s _ (K6.out.trans (Below.mono (by (repeat (first | exact Below.refl _ _ | exact hb1 | refine Below.drew ?_ | refine Below.alloc ?_ ?_ _)); (all_goals (first | omega | (simp; done) | (simp; omega)))) hz5))⟩) (by simp; omega) (by (first | omega | (simp; done) | (simp; omega))) ?_; intro v1 z1 hr1 hp1; have hb1 : Below x3.heap.size x3 z1 := Below.trans (by (repeat (first | exact Below.refl _ _ | exact hb1 | refine Below.drew ?_ | refine Below.alloc ?_ ?_ _)); (all_goals (first | omega | (simp; done) | (simp; omega)))) (hp1.below (by (first | omega | (simp; done) | (simp; omega))) (fun k hk => by cases hk; (first | omega | (simp; done) | (simp; omega)))); have hbs1 := hb1.size; have f7b : z1.cell? ⟨w.heap.size, 7, none⟩ = some (.slice B7 y.methods.length d7) := (hb1.cell hq).trans f7; have hqb : w.heap.size < z1.heap.size := Nat.lt_of_lt_of_le hq hbs1)
      | (refine step_appM (R := Mbr.rd w) rfl _ _ rfl x3.heap.size _ ([] ++ y.fields) rfl (by first | exact hr1 | (refine hr1.grow ?_; (repeat (first | exact Below.refl _ _ | exact hb1 | refine Below.drew ?_ | refine Below.alloc ?_ ?_ _)); (all_goals (first | omega | (simp; done) | (simp; omega))))) _ y.methods rfl (let ⟨n, p, s⟩ := HS7.out; ⟨n, p, s _ (K6.out.trans (Below.mono (by (repeat (first | exact Below.refl _ _ | exact hb1 | refine Below.drew ?_ | refine Below.alloc ?_ ?_ _)); (all_goals (first | omega | (simp; done) | (simp; omega)))) hz5))⟩) (by simp; omega) (by (first | omega | (simp; done) | (simp; omega))) ?_; intro v2 z2 hr2 hp2; have hb2 : Below x3.heap.size x3 z2 := Below.trans (by (repeat (first | exact Below.refl _ _ | exact hb1 | refine Below.drew ?_ | refine Below.alloc ?_ ?_ _)); (all_goals (first | omega | (simp; done) | (simp; omega)))) (hp2.below (by (first | omega | (simp; done) | (simp; omega))) (fun k hk => hr1.base_le hk)); rw [HLA.out] at hr2; obtain ⟨A2, c2, ev2, HP⟩ := hr2.reads; subst ev2)
      | (go_must (trace_state; fail))))
    all_goals (go_simp; go_wp2_with fail; go_meet; exact ⟨A2, c2, rfl, rfl, rfl, HP, hb2⟩)
  case rest =>
    obtain ⟨A2, c2, rfl, rfl, rfl, HP, hb2⟩ := hcut
    have HPP := Lib.hid HP
    have HT4 := Lib.hid (HT3.out.grow hb2)
    have K7 := Lib.hid (K6.out.trans (hb2.mono hz5))
    have HX6 := Lib.hid ((hb2.block w.heap.size hq).trans HX5.out)
    clear HP hb2 HT3 K6 HX5 hq f6 f7 HS6 HS7 HM3 HM6 HM7 HF5
    go_upto_region 6 with fail
    go_loopw [42] (fun uu wr => ∃ i : Nat, i ≤ L.length ∧ uu = .int .i64 i ∧ TBox wr w.heap.size g (UV.add (tlAll tlMbr (L.take i))) ∧ Below w.heap.size w wr ∧ Still wc wr ∧ wr.heap[w.heap.size]? = some (.cells #[.int .i64 y.minor, .int .i64 y.major, .int .i64 y.flags, .string (bs y.this), .string (bs y.super), .slice B5 y.faces.length d5, .slice B6 y.fields.length d6, .slice B7 y.methods.length d7, .int .i64 y.attrs.has, .int .i64 y.attrs.code.stack, .int .i64 y.attrs.code.locals, .slice C0 y.attrs.code.ops.length e0, .slice C1 y.attrs.code.handlers.length e1, .int .i64 y.attrs.code.has, .slice C2 y.attrs.code.lines.length e2, .slice C3 y.attrs.code.slots.length e3, .int .i64 y.attrs.value.tag, .string (bs y.attrs.value.text), .int .u64 y.attrs.value.bits, .string (bs y.attrs.value.cls), .string (bs y.attrs.value.name), .string (bs y.attrs.value.desc), .slice C4 y.attrs.throws.length e4, .slice C5 y.attrs.inners.length e5, .string (bs y.attrs.signature), .string (bs y.attrs.source)] 37)) (fun uu _ => L.length - (intOf uu).toNat)
    case atStart => exact ⟨0, Nat.zero_le _, rfl, by simpa [tlAll, Tl.add_nil] using HT4.out, K7.out, fun _ _ _ _ h _ _ _ => h, HX6.out⟩
    case round =>
      as_aux_lemma =>
      obtain ⟨i, hil, rfl, hT, hK, hS, hH⟩ := hrel
      have HKi := Lib.hid hK
      have HSi := Lib.hid hS
      have HHi := Lib.hid hH
      by_cases h1 : i < L.length
      · as_aux_lemma =>
        obtain ⟨gm, om, CC, x, cx, rfl, hC, hx, hrx, hcl, hcx⟩ := HPP.out.at_ h1
        have hsi := HR.out i x hx
        have HLX := Lib.hid (HLG.out x (List.mem_of_getElem? hx))
        have HSN := Lib.hid (tlAll_snoc tlMbr hx)
        obtain ⟨TA, hTA⟩ : ∃ TA, TA = UV.add (tlAll tlMbr (L.take i)) := ⟨_, rfl⟩
        rw [← hTA] at hT hsi
        have HTi := Lib.hid hT
        have HTA := Lib.hid hTA
        clear hTA
        have hCr := hS _ _ _ _ hC (by decide) (by decide) (by decide)
        have hcw := hcx wr hCr
        have HATX := Lib.hid (show Atr.rd w ((cx.drop 3).take 18) x.attrs from hrx.2.2.2.2)
        have HONE := Lib.hid (mbr_one cx x hrx)
        obtain ⟨Ma0, mc0, Ma1, mc1, Ma2, mc2, Ma3, mc3, Ma4, mc4, Ma5, mc5, rfl, _⟩ := Mbr.leafs hrx
        have HATX := Lib.hid (show Atr.rd w [.int .i64 x.attrs.has, .int .i64 x.attrs.code.stack, .int .i64 x.attrs.code.locals, .slice Ma0 x.attrs.code.ops.length mc0, .slice Ma1 x.attrs.code.handlers.length mc1, .int .i64 x.attrs.code.has, .slice Ma2 x.attrs.code.lines.length mc2, .slice Ma3 x.attrs.code.slots.length mc3, .int .i64 x.attrs.value.tag, .string (bs x.attrs.value.text), .int .u64 x.attrs.value.bits, .string (bs x.attrs.value.cls), .string (bs x.attrs.value.name), .string (bs x.attrs.value.desc), .slice Ma4 x.attrs.throws.length mc4, .slice Ma5 x.attrs.inners.length mc5, .string (bs x.attrs.signature), .string (bs x.attrs.source)] x.attrs from HATX.out)
        have hgr : gm < wr.heap.size := (Array.getElem?_eq_some_iff.1 hCr).1
        have HCW := Lib.hid hcw
        have hcl21 : (Tryz.prog.info? 55).map (·.size) = some 21 := by kernel_rfl
        clear hT hK hS hH hcw hcx hrx hC hCr
        go_upto_region 8 with (first | (refine wpList_load_cells rfl 55 _ rfl gm (om + i * 21) rfl _ HCW.out _ Tryz.underlying55 rfl hcl21 ?_) | (refine wpList_store_fresh rfl 55 _ _ rfl wr _ [.int .i64 x.flags, .string (bs x.name), .string (bs x.desc), .int .i64 x.attrs.has, .int .i64 x.attrs.code.stack, .int .i64 x.attrs.code.locals, .slice Ma0 x.attrs.code.ops.length mc0, .slice Ma1 x.attrs.code.handlers.length mc1, .int .i64 x.attrs.code.has, .slice Ma2 x.attrs.code.lines.length mc2, .slice Ma3 x.attrs.code.slots.length mc3, .int .i64 x.attrs.value.tag, .string (bs x.attrs.value.text), .int .u64 x.attrs.value.bits, .string (bs x.attrs.value.cls), .string (bs x.attrs.value.name), .string (bs x.attrs.value.desc), .slice Ma4 x.attrs.throws.length mc4, .slice Ma5 x.attrs.inners.length mc5, .string (bs x.attrs.signature), .string (bs x.attrs.source)] 55 rfl rfl hcl21 rfl HONE.out ?_))
        have k4 := (Below.refl wr.heap.size wr).alloc (Nat.le_refl _) (.cells #[.int .i64 x.flags, .string (bs x.name), .string (bs x.desc), .int .i64 x.attrs.has, .int .i64 x.attrs.code.stack, .int .i64 x.attrs.code.locals, .slice Ma0 x.attrs.code.ops.length mc0, .slice Ma1 x.attrs.code.handlers.length mc1, .int .i64 x.attrs.code.has, .slice Ma2 x.attrs.code.lines.length mc2, .slice Ma3 x.attrs.code.slots.length mc3, .int .i64 x.attrs.value.tag, .string (bs x.attrs.value.text), .int .u64 x.attrs.value.bits, .string (bs x.attrs.value.cls), .string (bs x.attrs.value.name), .string (bs x.attrs.value.desc), .slice Ma4 x.attrs.throws.length mc4, .slice Ma5 x.attrs.inners.length mc5, .string (bs x.attrs.signature), .string (bs x.attrs.source)] 55)
        have HX4 := Lib.hid (heap_alloc_new wr (.cells #[.int .i64 x.flags, .string (bs x.name), .string (bs x.desc), .int .i64 x.attrs.has, .int .i64 x.attrs.code.stack, .int .i64 x.attrs.code.locals, .slice Ma0 x.attrs.code.ops.length mc0, .slice Ma1 x.attrs.code.handlers.length mc1, .int .i64 x.attrs.code.has, .slice Ma2 x.attrs.code.lines.length mc2, .slice Ma3 x.attrs.code.slots.length mc3, .int .i64 x.attrs.value.tag, .string (bs x.attrs.value.text), .int .u64 x.attrs.value.bits, .string (bs x.attrs.value.cls), .string (bs x.attrs.value.name), .string (bs x.attrs.value.desc), .slice Ma4 x.attrs.throws.length mc4, .slice Ma5 x.attrs.inners.length mc5, .string (bs x.attrs.signature), .string (bs x.attrs.source)] 55))
        have hzr := HKi.out.size
        have HT4 := Lib.hid (HTi.out.grow k4)
        have K4 := Lib.hid (HKi.out.trans (k4.mono hzr))
        have S4 := Lib.hid (HSi.out.trans (still_below k4))
        have HH4 := Lib.hid ((k4.block w.heap.size (Array.getElem?_eq_some_iff.1 HHi.out).1).trans HHi.out)
        have hz4 := Nat.le_trans hzr k4.size
        clear k4 HONE HCW hcl21 HTi HKi HSi HHi
        generalize hW4 : wr.alloc (.cells #[.int .i64 x.flags, .string (bs x.name), .string (bs x.desc), .int .i64 x.attrs.has, .int .i64 x.attrs.code.stack, .int .i64 x.attrs.code.locals, .slice Ma0 x.attrs.code.ops.length mc0, .slice Ma1 x.attrs.code.handlers.length mc1, .int .i64 x.attrs.code.has, .slice Ma2 x.attrs.code.lines.length mc2, .slice Ma3 x.attrs.code.slots.length mc3, .int .i64 x.attrs.value.tag, .string (bs x.attrs.value.text), .int .u64 x.attrs.value.bits, .string (bs x.attrs.value.cls), .string (bs x.attrs.value.name), .string (bs x.attrs.value.desc), .slice Ma4 x.attrs.throws.length mc4, .slice Ma5 x.attrs.inners.length mc5, .string (bs x.attrs.signature), .string (bs x.attrs.source)] 55) = W4 at HX4 HT4 K4 S4 HH4 hz4 ⊢
        clear hW4
        as_aux_lemma =>
        have l0 : W4.cell? ⟨wr.heap.size, 0, none⟩ = some (.int .i64 x.flags) := by rw [Lib.cell_of_heap HX4.out]; rfl
        have hl4 := (Array.getElem?_eq_some_iff.1 HX4.out).1
        have k5 := (Below.refl W4.heap.size W4).alloc (Nat.le_refl _) (.cells #[.int .i64 x.flags] 3)
        have CC5 := Lib.hid (ints_tell w.heap.size g 1 (some ⟨W4.heap.size, 0, none⟩) _ [x.flags] _ (HT4.out.grow k5) (ints_new (heap_alloc_new W4 (.cells #[.int .i64 x.flags] 3)) [x.flags] rfl) (by simp only [List.length_cons, List.length_nil]; omega) (Nat.le_trans hz4 k5.size))
        have K5 := Lib.hid (k5.mono hz4)
        have S5 := Lib.hid (still_below k5)
        clear k5
        go_upto_region 9 with fail
        refine CC5.out.mono ?_
        rintro e x2 ⟨rfl, t2, b2, s2⟩
        have HT5 := Lib.hid t2
        have K6 := Lib.hid (K4.out.trans (K5.out.trans b2))
        have S6 := Lib.hid (S4.out.trans (S5.out.trans s2))
        have HX6 := Lib.hid ((S5.out.trans s2) _ _ _ _ HX4.out (by decide) (by decide) (by decide))
        have HH6 := Lib.hid ((S5.out.trans s2) _ _ _ _ HH4.out (by decide) (by decide) (by decide))
        have hz6 := Nat.le_trans hz4 (Nat.le_trans K5.out.size b2.size)
        clear t2 b2 s2 CC5 K4 S4 K5 S5 HX4 HH4 HT4 l0 hl4
        as_aux_lemma =>
        have l1 : x2.cell? ⟨wr.heap.size, 1, none⟩ = some (.string (bs x.name)) := by rw [Lib.cell_of_heap HX6.out]; rfl
        have l2 : x2.cell? ⟨wr.heap.size, 2, none⟩ = some (.string (bs x.desc)) := by rw [Lib.cell_of_heap HX6.out]; rfl
        have hl6 := (Array.getElem?_eq_some_iff.1 HX6.out).1
        have n5 : (TA.add (tlInts [x.flags])).1.length = TA.1.length + 1 ∧ (TA.add (tlInts [x.flags])).2.length = TA.2.length := by simp [Tl.add, tlInts]
        have k7 := (Below.refl x2.heap.size x2).alloc (Nat.le_refl _) (.cells #[.string (bs x.name), .string (bs x.desc)] 9)
        have CC7 := Lib.hid (texts_tell w.heap.size g 2 (some ⟨x2.heap.size, 0, none⟩) _ [x.name, x.desc] _ (HT5.out.grow k7) (txt_new (heap_alloc_new x2 (.cells #[.string (bs x.name), .string (bs x.desc)] 9)) [x.name, x.desc] rfl) (fun _ => txtAt_new (heap_alloc_new x2 (.cells #[.string (bs x.name), .string (bs x.desc)] 9))) (by rw [n5.1]; omega) (by rw [n5.2]; simp only [List.length_cons, List.length_nil]; omega) (Nat.le_trans hz6 k7.size))
        have K7 := Lib.hid (k7.mono hz6)
        have S7 := Lib.hid (still_below k7)
        clear k7
        go_upto_region 9 with fail
        go_upto_region 10 with fail
        refine CC7.out.mono ?_
        rintro e x4 ⟨rfl, t3, b3, s3⟩
        have HT7 := Lib.hid t3
        have K8 := Lib.hid (K6.out.trans (K7.out.trans b3))
        have S8 := Lib.hid (S6.out.trans (S7.out.trans s3))
        have HX8 := Lib.hid ((S7.out.trans s3) _ _ _ _ HX6.out (by decide) (by decide) (by decide))
        have HH8 := Lib.hid ((S7.out.trans s3) _ _ _ _ HH6.out (by decide) (by decide) (by decide))
        have hz8 := Nat.le_trans hz6 (Nat.le_trans K7.out.size b3.size)
        clear t3 b3 s3 CC7 K6 S6 K7 S7 HX6 HH6 HT5 l1 l2 hl6
        as_aux_lemma =>
        have HCA := Lib.hid (show CellsAt x4 wr.heap.size 3 [.int .i64 x.attrs.has, .int .i64 x.attrs.code.stack, .int .i64 x.attrs.code.locals, .slice Ma0 x.attrs.code.ops.length mc0, .slice Ma1 x.attrs.code.handlers.length mc1, .int .i64 x.attrs.code.has, .slice Ma2 x.attrs.code.lines.length mc2, .slice Ma3 x.attrs.code.slots.length mc3, .int .i64 x.attrs.value.tag, .string (bs x.attrs.value.text), .int .u64 x.attrs.value.bits, .string (bs x.attrs.value.cls), .string (bs x.attrs.value.name), .string (bs x.attrs.value.desc), .slice Ma4 x.attrs.throws.length mc4, .slice Ma5 x.attrs.inners.length mc5, .string (bs x.attrs.signature), .string (bs x.attrs.source)] from cellsAt_block HX8.out 3 18)
        have hcl18 : (Tryz.prog.info? 35).map (·.size) = some 18 := by kernel_rfl
        have hl8 := (Array.getElem?_eq_some_iff.1 HX8.out).1
        have hmh := mbr_head TA x
        have CC9 := Lib.hid (attrs_tell w x4 g _ x.attrs _ HATX.out HLX.out.2.2.2 K8.out HT7.out (by omega))
        go_upto_region 10 with (refine wpList_load_cells rfl 35 _ rfl wr.heap.size 3 rfl _ HCA.out _ Tryz.underlying35 rfl hcl18 ?_)
        go_upto_region 11 with (refine wpList_load_cells rfl 35 _ rfl wr.heap.size 3 rfl _ HCA.out _ Tryz.underlying35 rfl hcl18 ?_)
        refine CC9.out.mono ?_
        rintro e x5 ⟨rfl, t4, b4, s4⟩
        have HT9 := Lib.hid t4
        have K9 := Lib.hid (K8.out.trans b4)
        have S9 := Lib.hid (S8.out.trans s4)
        have HH9 := Lib.hid (s4 _ _ _ _ HH8.out (by decide) (by decide) (by decide))
        clear t4 b4 s4 CC9 K8 S8 HX8 HH8 HT7 HCA hcl18 hl8
        as_aux_lemma =>
        have HF := Lib.hid (show ((TA.add (tlInts [x.flags])).add (tlTexts [x.name, x.desc])).add (tlAtr x.attrs) = UV.add (tlAll tlMbr (L.take (i + 1))) by rw [HSN.out, HTA.out]; simp only [tlMbr, Tl.add_assoc])
        go_wp2_with fail
        have hwr := wrap_next h1 (Nat.le_trans HLg.out (by omega))
        refine ⟨⟨i + 1, h1, by rw [hwr], by rw [← HF.out]; exact HT9.out, K9.out, S9.out, HH9.out⟩, ?_⟩
        rw [hwr]
        exact less_next h1
      · as_aux_lemma =>
        have hie : i = L.length := by omega
        subst hie
        rw [List.take_length] at hT
        have HT5 := Lib.hid hT
        clear hT hK hS hH
        have HCA := Lib.hid (show CellsAt wr w.heap.size 8 [.int .i64 y.attrs.has, .int .i64 y.attrs.code.stack, .int .i64 y.attrs.code.locals, .slice C0 y.attrs.code.ops.length e0, .slice C1 y.attrs.code.handlers.length e1, .int .i64 y.attrs.code.has, .slice C2 y.attrs.code.lines.length e2, .slice C3 y.attrs.code.slots.length e3, .int .i64 y.attrs.value.tag, .string (bs y.attrs.value.text), .int .u64 y.attrs.value.bits, .string (bs y.attrs.value.cls), .string (bs y.attrs.value.name), .string (bs y.attrs.value.desc), .slice C4 y.attrs.throws.length e4, .slice C5 y.attrs.inners.length e5, .string (bs y.attrs.signature), .string (bs y.attrs.source)] from cellsAt_block HHi.out 8 18)
        have hcl18 : (Tryz.prog.info? 35).map (·.size) = some 18 := by kernel_rfl
        have hq := (Array.getElem?_eq_some_iff.1 HHi.out).1
        have HATR := Lib.hid (show Atr.rd w [.int .i64 y.attrs.has, .int .i64 y.attrs.code.stack, .int .i64 y.attrs.code.locals, .slice C0 y.attrs.code.ops.length e0, .slice C1 y.attrs.code.handlers.length e1, .int .i64 y.attrs.code.has, .slice C2 y.attrs.code.lines.length e2, .slice C3 y.attrs.code.slots.length e3, .int .i64 y.attrs.value.tag, .string (bs y.attrs.value.text), .int .u64 y.attrs.value.bits, .string (bs y.attrs.value.cls), .string (bs y.attrs.value.name), .string (bs y.attrs.value.desc), .slice C4 y.attrs.throws.length e4, .slice C5 y.attrs.inners.length e5, .string (bs y.attrs.signature), .string (bs y.attrs.source)] y.attrs from HATR.out)
        have CC5 := Lib.hid (attrs_tell w wr g _ y.attrs _ HATR.out hg.2.2.2.2.2.2.2.2 HKi.out HT5.out HR2.out)
        have HE := Lib.hid (show (UV.add (tlAll tlMbr L)).add (tlAtr y.attrs) = tlCls y by rw [HUV.out, HL.out]; rfl)
        go_wp2_with (refine wpList_load_cells rfl 35 _ rfl w.heap.size 8 rfl _ HCA.out _ Tryz.underlying35 rfl hcl18 ?_)
        refine CC5.out.mono ?_
        rintro e x6 ⟨rfl, t6, b6, s6⟩
        rw [HE.out] at t6
        have HT6 := Lib.hid t6
        have K8 := Lib.hid (HKi.out.trans b6)
        clear t6 b6 s6 CC5 HHi hq HCA hcl18
        go_wp2_with fail
        go_ret
        exact ⟨g, rfl, HT6.out, K8.out⟩
end Go.Proofs.YtibogpidnnodnaaGreatDoor

/- slices.EqualFunc of Ins by sameIns. Printed by mk_equalf.py. -/
namespace Go.Proofs.YtibogpidnnodnaaGreatDoor
open Go.RowKit Go.Deep

theorem wpList_load_cellsW {P : Program} {ops : Array Oper} {rest : List Oper} {o : Oper} {a : Act} {w : World} {Q : Exit → Act → World → Prop} (hw : Region.wanted o (yielded ops a.tmps) = true) (ty : TypeId) (x : Operand) (ho : o.op = .load ty x)
    (g off : Nat) (hx : a.eval x = .pointer (some ⟨g, off, none⟩)) (cs : List Value) (hc : CellsAt w g off cs) (d : TypeDesc)
    (hu : P.underlying ty = some d) (hd : (match d with | .struct _ | .array _ _ => true | _ => false) = true) (hi : (P.info? ty).map (·.size) = some cs.length)
    (h : wpList P ops Q rest (a.put o.dst (.agg cs.toArray)) w) : wpList P ops Q (o :: rest) a w :=
  wpList_step fun K hK => by
    rw [if_pos hw]
    unfold Oper.wp
    rw [run_load_cells ty x ho g off hx cs hc d hu hd hi]
    exact hK _ _ h
theorem cins_one {w : World} (cs : List Value) (y : Cins) (h : Cins.rd w cs y) : ∀ u ∈ cs, u.oneCell' = true := by
  obtain ⟨A0, c0, A1, c1, rfl, _⟩ := Cins.leafs h
  intro u hu
  simp only [List.mem_cons, List.not_mem_nil, or_false] at hu
  rcases hu with rfl | rfl | rfl | rfl | rfl | rfl | rfl | rfl | rfl | rfl | rfl | rfl <;> rfl
set_option maxHeartbeats 8000000 in
set_option maxRecDepth 100000 in
theorem efi_any (A B : Option Addr) (c d : Nat) (xs ys : List Cins) (w : World) (ha : Sl 12 Cins.rd w A c xs) (hb : Sl 12 Cins.rd w B d ys) (hn : xs.length ≤ 140737488355328) (_hm : ys.length ≤ 140737488355328) (hga : ∀ u ∈ xs, Cins.good u) (hgb : ∀ u ∈ ys, Cins.good u) :
    Calls Tryz.prog 83 #[.slice A xs.length c, .slice B ys.length d, .func (.func 84) #[] #[]] w fun e w' => TellsB (xs = ys) e ∧ Below w.heap.size w w' := by
  have HA := Lib.hid ha
  have HB := Lib.hid hb
  have HGA := Lib.hid hga
  have HGB := Lib.hid hgb
  clear ha hb hga hgb
  by_cases hl : xs.length = ys.length
  · have hl2 : ((xs.length : Int) != (ys.length : Int)) = false := by simp [hl]
    go_enter Tryz.func83, Tryz.ntmps83
    go_upto_region 4 with fail
    go_loopw [17] (fun s17 wr => ∃ i : Nat, i ≤ xs.length ∧ s17 = .int .i64 i ∧ xs.take i = ys.take i ∧ Below w.heap.size w wr) (fun s17 _ => xs.length - (intOf s17).toNat)
    case atStart => exact ⟨0, Nat.zero_le _, rfl, rfl, Below.refl _ _⟩
    case round =>
      obtain ⟨i, hil, rfl, he, hK⟩ := hrel
      have K := Lib.hid hK
      have HE := Lib.hid he
      by_cases h1 : i < xs.length
      · as_aux_lemma =>
        obtain ⟨g, o, x, cx, rfl, hg, hx, hrx, hcl, hcx⟩ := HA.out.at_ h1
        obtain ⟨g2, o2, y, cy, rfl, hg2, hy, hry, hdl, hcy⟩ := HB.out.at_ (show i < ys.length by omega)
        have HCX := Lib.hid (hcx.grow hK hg)
        have kA := (Below.refl wr.heap.size wr).alloc (Nat.le_refl _) (.cells cx.toArray 46)
        have HCY := Lib.hid ((hcy.grow hK hg2).grow kA (Nat.lt_of_lt_of_le hg2 hK.size))
        have hci : (Tryz.prog.info? 46).map (·.size) = some cx.length := by rw [hcl]; kernel_rfl
        have hcj : (Tryz.prog.info? 46).map (·.size) = some cy.length := by rw [hdl]; kernel_rfl
        have HO1 := Lib.hid (cins_one cx x hrx)
        have HO2 := Lib.hid (cins_one cy y hry)
        have HGX := Lib.hid (HGA.out x (List.mem_of_getElem? hx))
        have HGY := Lib.hid (HGB.out y (List.mem_of_getElem? hy))
        have HRX := Lib.hid (fun w' (k : Below w.heap.size w w') => Cins.rd_grow hrx k)
        have HRY := Lib.hid (fun w' (k : Below w.heap.size w w') => Cins.rd_grow hry k)
        have K1 := Lib.hid (hK.trans (kA.mono hK.size))
        have E1 := Lib.hid (heap_alloc_new wr (.cells cx.toArray 46))
        have i1 : ¬ ((i : Int) < 0) := by omega
        have i2 : (i : Int) < (xs.length : Int) := by omega
        have i3 : (i : Int) < (ys.length : Int) := by omega
        have i4 : i < xs.length := h1
        have i5 : i < ys.length := by omega
        have HX := Lib.hid hx
        have HY := Lib.hid hy
        have HCL := Lib.hid hcl
        have HDL := Lib.hid hdl
        clear hK he hl hx hy hcx hcy hrx hry hg hg2 hl2 kA hcl hdl
        go_upto_region 6 with (first | (refine wpList_load_cells rfl 46 _ rfl g (o + i * 12) rfl _ HCX.out _ Tryz.underlying46 rfl hci ?_) | (refine wpList_store_fresh rfl 46 _ _ rfl wr _ cx 46 rfl rfl hci (by rw [HCL.out]; rfl) HO1.out ?_))
        have hs1 : (wr.alloc (.cells cx.toArray 46)).heap.size = wr.heap.size + 1 := by show (wr.heap.push _).size = _; simp
        generalize wr.alloc (.cells cx.toArray 46) = W1 at HCY K1 E1 hs1 ⊢
        have kB := (Below.refl W1.heap.size W1).alloc (Nat.le_refl _) (.cells cy.toArray 46)
        have E2 := Lib.hid (heap_alloc_new W1 (.cells cy.toArray 46))
        have E1b := Lib.hid ((kB.block _ (Array.getElem?_eq_some_iff.1 E1.out).1).trans E1.out)
        have K2 := Lib.hid (K1.out.trans (kB.mono K1.out.size))
        rw [hs1] at E2
        have HS1 := Lib.hid hs1
        clear kB E1 HCX hs1
        go_upto_region 7 with (first | (refine wpList_load_cells rfl 46 _ rfl g2 (o2 + i * 12) rfl _ HCY.out _ Tryz.underlying46 rfl hcj ?_) | (refine wpList_store_fresh rfl 46 _ _ rfl W1 _ cy 46 rfl rfl hcj (by rw [HDL.out]; rfl) HO2.out ?_))
        rw [HS1.out]
        generalize W1.alloc (.cells cy.toArray 46) = W2 at K2 E2 E1b ⊢
        have HL1 := Lib.hid (show CellsAt W2 wr.heap.size 0 cx from by have h := cellsAt_block E1b.out 0 cx.length; rwa [List.drop_zero, List.take_length] at h)
        have HL2 := Lib.hid (show CellsAt W2 (wr.heap.size + 1) 0 cy from by have h := cellsAt_block E2.out 0 cy.length; rwa [List.drop_zero, List.take_length] at h)
        have C := Lib.hid (sameIns_any W2 x y cx cy (HRX.out W2 K2.out) (HRY.out W2 K2.out) HGX.out HGY.out)
        clear HCY E1b E2 K1 HS1
        go_wp2_with (first | (refine wpList_load_cells rfl 46 _ rfl wr.heap.size 0 rfl _ HL1.out _ Tryz.underlying46 rfl hci ?_) | (refine wpList_load_cells rfl 46 _ rfl (wr.heap.size + 1) 0 rfl _ HL2.out _ Tryz.underlying46 rfl hcj ?_))
        refine C.out.mono ?_
        rintro e w3 ⟨⟨t, rfl, ht⟩, hb3⟩
        have K3 := Lib.hid (K2.out.trans (hb3.mono K2.out.size))
        clear hb3 C HL1 HL2 K2
        cases t with
        | true =>
          have HT := Lib.hid (take_same HE.out HX.out (by rw [ht.1 rfl]; exact HY.out))
          clear ht
          go_wp2_with fail
          exact ⟨⟨i + 1, h1, rfl, HT.out, K3.out⟩, next_less h1⟩
        | false =>
          have HN := Lib.hid (not_same HX.out HY.out (fun e => by cases ht.2 e))
          clear ht
          go_wp2_with fail
          go_ret
          exact ⟨tells_no HN.out, K3.out⟩
      · as_aux_lemma =>
        have hie : i = xs.length := by omega
        have hxe : xs = ys := by
          rw [hie, List.take_length, hl, List.take_length] at he
          exact he
        have HN := Lib.hid hxe
        have h1b : ¬ i < ys.length := by omega
        clear hK he hl hl2 HE hxe
        go_wp2_with fail
        go_ret
        exact ⟨tells_yes HN.out, K.out⟩
  · have hl2 : ((xs.length : Int) != (ys.length : Int)) = true := by
      have : ¬ (xs.length : Int) = (ys.length : Int) := by omega
      simp [this]
    have HN := Lib.hid (show xs ≠ ys from fun e => hl (by rw [e]))
    clear hl
    go_enter Tryz.func83, Tryz.ntmps83
    go_wp2_with fail
    go_ret
    exact ⟨tells_no HN.out, Below.refl _ _⟩
end Go.Proofs.YtibogpidnnodnaaGreatDoor
