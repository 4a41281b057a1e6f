/- Joined texts: TellC, RefB, RefC, TellD. -/
import Derived.Test.YtpjafbinlklojaaDoorPk4
import Derived.Test.YtpjafbinlklojaaDoorPk3
import Derived.WalkSmall
import Derived.Deep.QuietTactic
import Derived.BigQuiet
/- The walk of layer 20's list: a code told. -/
namespace Go.Proofs.YtpjafbinlklojaaDoor
open Go.RowKit Go.Deep

theorem wrap_next {n i : Nat} (h : i < n) (hn : n ≤ 140737488355328) : wrap64 ((i : Int) + 1) = ((i + 1 : Nat) : Int) := by unfold wrap64; omega
theorem less_next {n i : Nat} (h : i < n) : n - ((i + 1 : Nat) : Int).toNat < n - (i : Int).toNat := by omega
set_option maxRecDepth 100000 in
set_option maxHeartbeats 4000000 in
theorem code_tell (w0 w : World) (b : Nat) (t : Tl) (y : Cde) (cs : List Value) (hr : Cde.rd w0 cs y) (hg : y.good) (hB : Below w0.heap.size w0 w) (h : TBox w w0.heap.size b t) (hsz : t.1.length + t.2.length + (tlCode y).size ≤ 100000000) :
    Calls Tryd.prog 39 #[.pointer (some ⟨b, 0, none⟩), .agg cs.toArray] w fun e w' => e = .returned (.tuple #[]) ∧ TBox w' w0.heap.size b (t.add (tlCode y)) ∧ Below w0.heap.size w w' ∧ Still w w' := by
  obtain ⟨A2, c2, A3, c3, A5, c5, A6, c6, rfl, ⟨s2, z2⟩, ⟨s3, z3⟩, ⟨s5, z5⟩, ⟨s6, z6⟩⟩ := Cde.leafs hr
  have hbs := hB.size
  have k1 := (Below.refl w.heap.size w).alloc (Nat.le_refl _) (.cells #[.int .i64 y.stack, .int .i64 y.locals, .slice A2 y.ops.length c2, .slice A3 y.handlers.length c3, .int .i64 y.has, .slice A5 y.lines.length c5, .slice A6 y.slots.length c6] 29)
  have HX := Lib.hid (heap_alloc_new w (.cells #[.int .i64 y.stack, .int .i64 y.locals, .slice A2 y.ops.length c2, .slice A3 y.handlers.length c3, .int .i64 y.has, .slice A5 y.lines.length c5, .slice A6 y.slots.length c6] 29))
  have HT := Lib.hid (h.grow k1)
  have K1 := Lib.hid (k1.mono hbs)
  have S1 := Lib.hid (still_below k1)
  have hz1 := Nat.le_trans hbs k1.size
  have HS2 := Lib.hid s2
  have HS3 := Lib.hid s3
  have HS5 := Lib.hid s5
  have HS6 := Lib.hid s6
  have HB := Lib.hid hB
  clear k1 h s2 s3 s5 s6 hB hr
  go_enter Tryd.func39, Tryd.ntmps39
  go_upto_region 1 with fail
  generalize w.alloc (.cells #[.int .i64 y.stack, .int .i64 y.locals, .slice A2 y.ops.length c2, .slice A3 y.handlers.length c3, .int .i64 y.has, .slice A5 y.lines.length c5, .slice A6 y.slots.length c6] 29) = W at HX HT K1 S1 hz1 ⊢
  have hq := (Array.getElem?_eq_some_iff.1 HX.out).1
  have d0 : W.cell? ⟨w.heap.size, 0, none⟩ = some (.int .i64 y.stack) := by rw [Lib.cell_of_heap HX.out]; rfl
  have d1 : W.cell? ⟨w.heap.size, 1, none⟩ = some (.int .i64 y.locals) := by rw [Lib.cell_of_heap HX.out]; rfl
  have d2 : W.cell? ⟨w.heap.size, 2, none⟩ = some (.slice A2 y.ops.length c2) := by rw [Lib.cell_of_heap HX.out]; rfl
  have d3 : W.cell? ⟨w.heap.size, 3, none⟩ = some (.slice A3 y.handlers.length c3) := by rw [Lib.cell_of_heap HX.out]; rfl
  have d4 : W.cell? ⟨w.heap.size, 4, none⟩ = some (.int .i64 y.has) := by rw [Lib.cell_of_heap HX.out]; rfl
  have d5 : W.cell? ⟨w.heap.size, 5, none⟩ = some (.slice A5 y.lines.length c5) := by rw [Lib.cell_of_heap HX.out]; rfl
  have d6 : W.cell? ⟨w.heap.size, 6, none⟩ = some (.slice A6 y.slots.length c6) := by rw [Lib.cell_of_heap HX.out]; rfl
  have k2 := (Below.refl W.heap.size W).alloc (Nat.le_refl _) (.cells #[.int .i64 y.stack, .int .i64 y.locals, .int .i64 y.has, .int .i64 (y.ops.length : Int), .int .i64 (y.handlers.length : Int), .int .i64 (y.lines.length : Int), .int .i64 (y.slots.length : Int)] 3)
  have C1 := Lib.hid (ints_tell w0.heap.size b 7 (some ⟨W.heap.size, 0, none⟩) t [y.stack, y.locals, y.has, y.ops.length, y.handlers.length, y.lines.length, y.slots.length] _ (HT.out.grow k2) (ints_new (heap_alloc_new W (.cells #[.int .i64 y.stack, .int .i64 y.locals, .int .i64 y.has, .int .i64 (y.ops.length : Int), .int .i64 (y.handlers.length : Int), .int .i64 (y.lines.length : Int), .int .i64 (y.slots.length : Int)] 3)) [y.stack, y.locals, y.has, y.ops.length, y.handlers.length, y.lines.length, y.slots.length] rfl) (by simp; omega) (Nat.le_trans hz1 k2.size))
  have K2 := Lib.hid (k2.mono hz1)
  have S2 := Lib.hid (still_below k2)
  clear k2
  go_upto_region 2 with fail
  refine C1.out.mono ?_
  rintro e x1 ⟨rfl, t1, b1, s1⟩
  have HT1 := Lib.hid t1
  have K3 := Lib.hid (K1.out.trans (K2.out.trans b1))
  have S3 := Lib.hid (S1.out.trans (S2.out.trans s1))
  have HX3 := Lib.hid ((S2.out.trans s1) _ _ _ _ HX.out (by decide) (by decide) (by decide))
  clear t1 b1 s1 C1 K1 K2 S1 S2 HX HT d0 d1 d2 d3 d4 d5 d6 hq hz1
  have e2 : x1.cell? ⟨w.heap.size, 2, none⟩ = some (.slice A2 y.ops.length c2) := by rw [Lib.cell_of_heap HX3.out]; rfl
  go_upto_region 2 with fail
  generalize he1 : tlInts [y.stack, y.locals, y.has, (y.ops.length : Int), (y.handlers.length : Int), (y.lines.length : Int), (y.slots.length : Int)] = u1 at HT1
  have HU1 := Lib.hid he1
  clear he1
  have HIN := fun (i : Nat) (_ : i ≤ y.ops.length) => code_room t u1 y (by rw [← HU1.out]; simp [tlInts]) hsz i
  have HIX := Lib.hid HIN
  have HKX := fun (x : Cins) (hx : x ∈ y.ops) => code_keys t y hsz x hx
  have HKS := Lib.hid HKX
  have HGO := fun (x : Cins) (hx : x ∈ y.ops) => hg.2.2.1.2 x hx
  have HGS := Lib.hid HGO
  clear HIN HKX HGO
  go_upto_region 3 with fail
  go_loopw [36] (fun u wr => ∃ i : Nat, i ≤ y.ops.length ∧ u = .int .i64 i ∧ TBox wr w0.heap.size b ((t.add u1).add (tlAll tlIns (y.ops.take i))) ∧ Below w0.heap.size w wr ∧ Still w wr ∧ wr.heap[w.heap.size]? = x1.heap[w.heap.size]?) (fun u _ => y.ops.length - (intOf u).toNat)
  case atStart => exact ⟨0, Nat.zero_le _, rfl, by simpa [tlAll, Tl.add_nil] using HT1.out, K3.out, S3.out, rfl⟩
  case round =>
    obtain ⟨i, hil, rfl, hT, hK, hS, hH⟩ := hrel
    have HKi := Lib.hid hK
    have HSi := Lib.hid hS
    have HHi := Lib.hid hH
    by_cases h1 : i < y.ops.length
    · obtain ⟨g, o, x, cx, rfl, hgw, hx, hrx, hcl, hcx⟩ := HS2.out.at_ h1
      have hsi := HIX.out i hil
      have hkx := HKS.out x (List.mem_of_getElem? hx)
      have hgx := Lib.hid (HGS.out x (List.mem_of_getElem? hx))
      have HSN := Lib.hid (tlAll_snoc tlIns hx)
      obtain ⟨TA, hTA⟩ : ∃ TA, TA = (t.add u1).add (tlAll tlIns (y.ops.take i)) := ⟨_, rfl⟩
      rw [← hTA] at hT hsi
      have HTi := Lib.hid hT
      have HTA := Lib.hid hTA
      clear hTA
      have hcw := hcx.grow (HB.out.trans HKi.out) hgw
      obtain ⟨A10, c10, A11, c11, rfl, ⟨i10, z10⟩, ⟨i11, z11⟩⟩ := Cins.leafs hrx
      have hgr : g < wr.heap.size := Nat.lt_of_lt_of_le hgw (HB.out.trans HKi.out).size
      have f0 := hcw 0 _ rfl
      have f1 := hcw 1 _ rfl
      have f2 := hcw 2 _ rfl
      have f3 := hcw 3 _ rfl
      have f4 := hcw 4 _ rfl
      have f5 := hcw 5 _ rfl
      have f6 := hcw 6 _ rfl
      have f7 := hcw 7 _ rfl
      have f8 := hcw 8 _ rfl
      have f9 := hcw 9 _ rfl
      have f10 := hcw 10 _ rfl
      have f11 := hcw 11 _ rfl
      rw [Nat.add_zero] at f0
      have HI10 := Lib.hid i10
      have HI11 := Lib.hid i11
      clear hT hK hS hH hcw hcx hrx i10 i11
      go_upto_region 5 with fail
      have k4 := (Below.refl wr.heap.size wr).alloc (Nat.le_refl _) (.cells #[.int .i64 x.op, .int .i64 x.var, .int .i64 x.num, .int .i64 x.const.tag, .string (bs x.const.text), .int .u64 x.const.bits, .string (bs x.const.cls), .string (bs x.const.name), .string (bs x.const.desc), .int .i64 x.to, .slice A10 x.keys.length c10, .slice A11 x.targets.length c11] 47)
      have HX4 := Lib.hid (heap_alloc_new wr (.cells #[.int .i64 x.op, .int .i64 x.var, .int .i64 x.num, .int .i64 x.const.tag, .string (bs x.const.text), .int .u64 x.const.bits, .string (bs x.const.cls), .string (bs x.const.name), .string (bs x.const.desc), .int .i64 x.to, .slice A10 x.keys.length c10, .slice A11 x.targets.length c11] 47))
      have hzr := Nat.le_trans hbs HKi.out.size
      have HT4 := Lib.hid (HTi.out.grow k4)
      have K4 := Lib.hid (HKi.out.trans (k4.mono hzr))
      have S4 := Lib.hid (HSi.out.trans (still_below k4))
      have HH4 := Lib.hid ((k4.block w.heap.size (Nat.lt_of_lt_of_le (Array.getElem?_eq_some_iff.1 (HHi.out.trans HX3.out)).1 (Nat.le_refl _))).trans HHi.out)
      have hz4 := Nat.le_trans hzr k4.size
      clear k4 f0 f1 f2 f3 f4 f5 f6 f7 f8 f9 f10 f11 HTi HKi HSi HHi
      generalize hW4 : wr.alloc (.cells #[.int .i64 x.op, .int .i64 x.var, .int .i64 x.num, .int .i64 x.const.tag, .string (bs x.const.text), .int .u64 x.const.bits, .string (bs x.const.cls), .string (bs x.const.name), .string (bs x.const.desc), .int .i64 x.to, .slice A10 x.keys.length c10, .slice A11 x.targets.length c11] 47) = W4 at HX4 HT4 K4 S4 HH4 hz4 ⊢
      clear hW4
      have l0 : W4.cell? ⟨wr.heap.size, 0, none⟩ = some (.int .i64 x.op) := by rw [Lib.cell_of_heap HX4.out]; rfl
      have l1 : W4.cell? ⟨wr.heap.size, 1, none⟩ = some (.int .i64 x.var) := by rw [Lib.cell_of_heap HX4.out]; rfl
      have l2 : W4.cell? ⟨wr.heap.size, 2, none⟩ = some (.int .i64 x.num) := by rw [Lib.cell_of_heap HX4.out]; rfl
      have l9 : W4.cell? ⟨wr.heap.size, 9, none⟩ = some (.int .i64 x.to) := by rw [Lib.cell_of_heap HX4.out]; rfl
      have l10 : W4.cell? ⟨wr.heap.size, 10, none⟩ = some (.slice A10 x.keys.length c10) := by rw [Lib.cell_of_heap HX4.out]; rfl
      have l11 : W4.cell? ⟨wr.heap.size, 11, none⟩ = some (.slice A11 x.targets.length c11) := by rw [Lib.cell_of_heap HX4.out]; rfl
      have hl4 := (Array.getElem?_eq_some_iff.1 HX4.out).1
      have k5 := (Below.refl W4.heap.size W4).alloc (Nat.le_refl _) (.cells #[.int .i64 x.op, .int .i64 x.var, .int .i64 x.num, .int .i64 x.to, .int .i64 (x.keys.length : Int), .int .i64 (x.targets.length : Int)] 3)
      have C5 := Lib.hid (ints_tell w0.heap.size b 6 (some ⟨W4.heap.size, 0, none⟩) _ [x.op, x.var, x.num, x.to, (x.keys.length : Int), (x.targets.length : Int)] _ (HT4.out.grow k5) (ints_new (heap_alloc_new W4 (.cells #[.int .i64 x.op, .int .i64 x.var, .int .i64 x.num, .int .i64 x.to, .int .i64 (x.keys.length : Int), .int .i64 (x.targets.length : Int)] 3)) [x.op, x.var, x.num, x.to, (x.keys.length : Int), (x.targets.length : Int)] rfl) (by simp only [List.length_cons, List.length_nil]; omega) (Nat.le_trans hz4 k5.size))
      have K5 := Lib.hid (k5.mono hz4)
      have S5 := Lib.hid (still_below k5)
      clear k5
      go_upto_region 6 with fail
      refine C5.out.mono ?_
      rintro e x2 ⟨rfl, t2, b2, s2⟩
      have HT5 := Lib.hid t2
      have K6 := Lib.hid (K4.out.trans (K5.out.trans b2))
      have S6 := Lib.hid (S4.out.trans (S5.out.trans s2))
      have HX6 := Lib.hid ((S5.out.trans s2) _ _ _ _ HX4.out (by decide) (by decide) (by decide))
      have HH6 := Lib.hid (((S5.out.trans s2) _ _ _ _ (HH4.out.trans HX3.out) (by decide) (by decide) (by decide)).trans HX3.out.symm)
      have hz6 := Nat.le_trans hz4 (Nat.le_trans K5.out.size b2.size)
      clear t2 b2 s2 C5 K4 S4 K5 S5 HX4 HH4 HT4 l0 l1 l2 l9 l10 l11 hl4
      have m3 : x2.cell? ⟨wr.heap.size, 3, none⟩ = some (.int .i64 x.const.tag) := by rw [Lib.cell_of_heap HX6.out]; rfl
      have m4 : x2.cell? ⟨wr.heap.size, 4, none⟩ = some (.string (bs x.const.text)) := by rw [Lib.cell_of_heap HX6.out]; rfl
      have m5 : x2.cell? ⟨wr.heap.size, 5, none⟩ = some (.int .u64 x.const.bits) := by rw [Lib.cell_of_heap HX6.out]; rfl
      have m6 : x2.cell? ⟨wr.heap.size, 6, none⟩ = some (.string (bs x.const.cls)) := by rw [Lib.cell_of_heap HX6.out]; rfl
      have m7 : x2.cell? ⟨wr.heap.size, 7, none⟩ = some (.string (bs x.const.name)) := by rw [Lib.cell_of_heap HX6.out]; rfl
      have m8 : x2.cell? ⟨wr.heap.size, 8, none⟩ = some (.string (bs x.const.desc)) := by rw [Lib.cell_of_heap HX6.out]; rfl
      have n5 : (TA.add (tlInts [x.op, x.var, x.num, x.to, (x.keys.length : Int), (x.targets.length : Int)])).1.length = TA.1.length + 6 ∧ (TA.add (tlInts [x.op, x.var, x.num, x.to, (x.keys.length : Int), (x.targets.length : Int)])).2.length = TA.2.length := by simp [Tl.add, tlInts]
      have C6 := Lib.hid (value_tell w0.heap.size b _ x.const x2 HT5.out hgx.out.2.2.2.1 (by rw [n5.1]; omega) (by rw [n5.2]; omega) hz6)
      go_upto_region 6 with fail
      go_upto_region 7 with fail
      refine C6.out.mono ?_
      rintro e x3 ⟨rfl, t3, b3, s3⟩
      have HT7 := Lib.hid t3
      have K7 := Lib.hid (K6.out.trans b3)
      have S7 := Lib.hid (S6.out.trans s3)
      have HX7 := Lib.hid (s3 _ _ _ _ HX6.out (by decide) (by decide) (by decide))
      have HH7 := Lib.hid ((s3 _ _ _ _ (HH6.out.trans HX3.out) (by decide) (by decide) (by decide)).trans HX3.out.symm)
      have hz7 := Nat.le_trans hz6 b3.size
      clear t3 b3 s3 C6 S6 HX6 HH6 HT5 m3 m4 m5 m6 m7 m8
      have p10 : x3.cell? ⟨wr.heap.size, 10, none⟩ = some (.slice A10 x.keys.length c10) := by rw [Lib.cell_of_heap HX7.out]; rfl
      have n7 : ((TA.add (tlInts [x.op, x.var, x.num, x.to, (x.keys.length : Int), (x.targets.length : Int)])).add (tlVal x.const)).1.length = TA.1.length + 9 := by simp [Tl.add, tlInts, tlVal, tlTexts]
      have C7 := Lib.hid (ints_tell w0.heap.size b c10 A10 _ x.keys x3 HT7.out (HI10.out.grow (HB.out.trans K7.out)) (by rw [n7]; omega) hz7)
      go_upto_region 7 with fail
      go_upto_region 8 with fail
      refine C7.out.mono ?_
      rintro e x4 ⟨rfl, t4, b4, s4⟩
      have HT8 := Lib.hid t4
      have K8 := Lib.hid (K7.out.trans b4)
      have S8 := Lib.hid (S7.out.trans s4)
      have HX8 := Lib.hid (s4 _ _ _ _ HX7.out (by decide) (by decide) (by decide))
      have HH8 := Lib.hid ((s4 _ _ _ _ (HH7.out.trans HX3.out) (by decide) (by decide) (by decide)).trans HX3.out.symm)
      have hz8 := Nat.le_trans hz7 b4.size
      clear t4 b4 s4 C7 S7 HX7 HH7 HT7 p10
      have p11 : x4.cell? ⟨wr.heap.size, 11, none⟩ = some (.slice A11 x.targets.length c11) := by rw [Lib.cell_of_heap HX8.out]; rfl
      have n8 : (((TA.add (tlInts [x.op, x.var, x.num, x.to, (x.keys.length : Int), (x.targets.length : Int)])).add (tlVal x.const)).add (tlInts x.keys)).1.length = TA.1.length + 9 + x.keys.length := by simp [Tl.add, tlInts, tlVal, tlTexts]; omega
      have C8 := Lib.hid (ints_tell w0.heap.size b c11 A11 _ x.targets x4 HT8.out (HI11.out.grow (HB.out.trans K8.out)) (by rw [n8]; omega) hz8)
      go_upto_region 8 with fail
      go_upto_region 9 with fail
      refine C8.out.mono ?_
      rintro e x5 ⟨rfl, t5, b5, s5⟩
      have HT9 := Lib.hid t5
      have K9 := Lib.hid (K8.out.trans b5)
      have S9 := Lib.hid (S8.out.trans s5)
      have HH9 := Lib.hid ((s5 _ _ _ _ (HH8.out.trans HX3.out) (by decide) (by decide) (by decide)).trans HX3.out.symm)
      have hfin : (((TA.add (tlInts [x.op, x.var, x.num, x.to, (x.keys.length : Int), (x.targets.length : Int)])).add (tlVal x.const)).add (tlInts x.keys)).add (tlInts x.targets) = (t.add u1).add (tlAll tlIns (y.ops.take (i + 1))) := by
        rw [HSN.out, HTA.out]
        simp only [tlIns, Tl.add_assoc]
      have HF := Lib.hid hfin
      clear t5 b5 s5 C8 S8 HX8 HH8 HT8 p11 hfin
      go_wp2_with fail
      have hol := hg.2.2.1.1
      have hwr := wrap_next h1 hol
      refine ⟨⟨i + 1, h1, by rw [hwr], by rw [← HF.out]; exact HT9.out, K9.out, S9.out, HH9.out⟩, ?_⟩
      rw [hwr]
      exact less_next h1
    · have hie : i = y.ops.length := by omega
      subst hie
      rw [List.take_length] at hT
      have HT21 := Lib.hid hT
      have KK22 := Lib.hid hK
      have SS22 := Lib.hid hS
      have HX22 := Lib.hid (hH.trans HX3.out)
      clear hT hK hS hH HX3 HT1 e2
      have e3 : wr.cell? ⟨w.heap.size, 3, none⟩ = some (.slice A3 y.handlers.length c3) := by rw [Lib.cell_of_heap HX22.out]; rfl
      have hq4 := (Array.getElem?_eq_some_iff.1 HX22.out).1
      obtain ⟨u2, hu2⟩ : ∃ u2, u2 = (t.add u1).add (tlAll tlIns y.ops) := ⟨_, rfl⟩
      have HT22 := Lib.hid (show TBox wr w0.heap.size b u2 by rw [hu2]; exact HT21.out)
      have HU2 := Lib.hid hu2
      have HR2 := Lib.hid (fun (i : Nat) => show (u2.add (tlAll tlHnd (y.handlers.take i))).1.length + (u2.add (tlAll tlHnd (y.handlers.take i))).2.length ≤ 200000000 by rw [hu2]; exact hnd_room t u1 y (by rw [← HU1.out]; simp [tlInts]) hsz i)
      clear hu2 HT21
      go_upto_region 11 with fail
      clear e3 hq4
      go_loopw [73] (fun u wr => ∃ i : Nat, i ≤ y.handlers.length ∧ u = .int .i64 i ∧ TBox wr w0.heap.size b (u2.add (tlAll tlHnd (y.handlers.take i))) ∧ Below w0.heap.size w wr ∧ Still w wr ∧ wr.heap[w.heap.size]? = some (.cells #[.int .i64 y.stack, .int .i64 y.locals, .slice A2 y.ops.length c2, .slice A3 y.handlers.length c3, .int .i64 y.has, .slice A5 y.lines.length c5, .slice A6 y.slots.length c6] 29)) (fun u _ => y.handlers.length - (intOf u).toNat)
      case atStart => exact ⟨0, Nat.zero_le _, rfl, by simpa [tlAll, Tl.add_nil] using HT22.out, KK22.out, SS22.out, HX22.out⟩
      case round =>
        obtain ⟨i, hil, rfl, hT, hK, hS, hH⟩ := hrel
        have HKi := Lib.hid hK
        have HSi := Lib.hid hS
        have HHi := Lib.hid hH
        by_cases h1 : i < y.handlers.length
        · obtain ⟨g, o, x, cx, rfl, hgw, hx, hrx, hcl, hcx⟩ := HS3.out.at_ h1
          have hsi := HR2.out i
          have HSN := Lib.hid (tlAll_snoc tlHnd hx)
          obtain ⟨TA, hTA⟩ : ∃ TA, TA = u2.add (tlAll tlHnd (y.handlers.take i)) := ⟨_, rfl⟩
          rw [← hTA] at hT hsi
          have HTi := Lib.hid hT
          have HTA := Lib.hid hTA
          clear hTA
          have hcw := hcx.grow (HB.out.trans HKi.out) hgw
          obtain rfl := Hnd.leafs hrx
          have hgr : g < wr.heap.size := Nat.lt_of_lt_of_le hgw (HB.out.trans HKi.out).size
          have f0 := hcw 0 _ rfl
          have f1 := hcw 1 _ rfl
          have f2 := hcw 2 _ rfl
          have f3 := hcw 3 _ rfl
          rw [Nat.add_zero] at f0
          clear hT hK hS hH hcw hcx hrx
          go_upto_region 13 with fail
          have k4 := (Below.refl wr.heap.size wr).alloc (Nat.le_refl _) (.cells #[.int .i64 x.from_, .int .i64 x.till, .int .i64 x.to, .string (bs x.kind)] 78)
          have HX4 := Lib.hid (heap_alloc_new wr (.cells #[.int .i64 x.from_, .int .i64 x.till, .int .i64 x.to, .string (bs x.kind)] 78))
          have hzr := Nat.le_trans hbs HKi.out.size
          have HT4 := Lib.hid (HTi.out.grow k4)
          have K4 := Lib.hid (HKi.out.trans (k4.mono hzr))
          have S4 := Lib.hid (HSi.out.trans (still_below k4))
          have HH4 := Lib.hid ((k4.block w.heap.size (Array.getElem?_eq_some_iff.1 HHi.out).1).trans HHi.out)
          have hz4 := Nat.le_trans hzr k4.size
          clear k4 f0 f1 f2 f3 HTi HKi HSi HHi
          generalize hW4 : wr.alloc (.cells #[.int .i64 x.from_, .int .i64 x.till, .int .i64 x.to, .string (bs x.kind)] 78) = W4 at HX4 HT4 K4 S4 HH4 hz4 ⊢
          clear hW4
          have l0 : W4.cell? ⟨wr.heap.size, 0, none⟩ = some (.int .i64 x.from_) := by rw [Lib.cell_of_heap HX4.out]; rfl
          have l1 : W4.cell? ⟨wr.heap.size, 1, none⟩ = some (.int .i64 x.till) := by rw [Lib.cell_of_heap HX4.out]; rfl
          have l2 : W4.cell? ⟨wr.heap.size, 2, none⟩ = some (.int .i64 x.to) := by rw [Lib.cell_of_heap HX4.out]; rfl
          have hl4 := (Array.getElem?_eq_some_iff.1 HX4.out).1
          have k5 := (Below.refl W4.heap.size W4).alloc (Nat.le_refl _) (.cells #[.int .i64 x.from_, .int .i64 x.till, .int .i64 x.to] 3)
          have C5 := Lib.hid (ints_tell w0.heap.size b 3 (some ⟨W4.heap.size, 0, none⟩) _ [x.from_, x.till, x.to] _ (HT4.out.grow k5) (ints_new (heap_alloc_new W4 (.cells #[.int .i64 x.from_, .int .i64 x.till, .int .i64 x.to] 3)) [x.from_, x.till, x.to] rfl) (by simp only [List.length_cons, List.length_nil]; omega) (Nat.le_trans hz4 k5.size))
          have K5 := Lib.hid (k5.mono hz4)
          have S5 := Lib.hid (still_below k5)
          clear k5
          go_upto_region 14 with fail
          refine C5.out.mono ?_
          rintro e x2 ⟨rfl, t2, b2, s2⟩
          have HT5 := Lib.hid t2
          have K6 := Lib.hid (K4.out.trans (K5.out.trans b2))
          have S6 := Lib.hid (S4.out.trans (S5.out.trans s2))
          have HX6 := Lib.hid ((S5.out.trans s2) _ _ _ _ HX4.out (by decide) (by decide) (by decide))
          have HH6 := Lib.hid ((S5.out.trans s2) _ _ _ _ HH4.out (by decide) (by decide) (by decide))
          have hz6 := Nat.le_trans hz4 (Nat.le_trans K5.out.size b2.size)
          clear t2 b2 s2 C5 K4 S4 K5 S5 HX4 HH4 HT4 l0 l1 l2 hl4
          have m3 : x2.cell? ⟨wr.heap.size, 3, none⟩ = some (.string (bs x.kind)) := by rw [Lib.cell_of_heap HX6.out]; rfl
          have hl6 := (Array.getElem?_eq_some_iff.1 HX6.out).1
          have n5 : (TA.add (tlInts [x.from_, x.till, x.to])).1.length = TA.1.length + 3 ∧ (TA.add (tlInts [x.from_, x.till, x.to])).2.length = TA.2.length := by simp [Tl.add, tlInts]
          have k7 := (Below.refl x2.heap.size x2).alloc (Nat.le_refl _) (.cells #[.string (bs x.kind)] 9)
          have C7 := Lib.hid (texts_tell w0.heap.size b 1 (some ⟨x2.heap.size, 0, none⟩) _ [x.kind] _ (HT5.out.grow k7) (txt_new (heap_alloc_new x2 (.cells #[.string (bs x.kind)] 9)) [x.kind] rfl) (fun _ => txtAt_new (heap_alloc_new x2 (.cells #[.string (bs x.kind)] 9))) (by rw [n5.1]; omega) (by rw [n5.2]; simp only [List.length_cons, List.length_nil]; omega) (Nat.le_trans hz6 k7.size))
          have K7 := Lib.hid (k7.mono hz6)
          have S7 := Lib.hid (still_below k7)
          clear k7
          go_upto_region 14 with fail
          go_upto_region 15 with fail
          refine C7.out.mono ?_
          rintro e x3 ⟨rfl, t3, b3, s3⟩
          have HT7 := Lib.hid t3
          have K8 := Lib.hid (K6.out.trans (K7.out.trans b3))
          have S8 := Lib.hid (S6.out.trans (S7.out.trans s3))
          have HH8 := Lib.hid ((S7.out.trans s3) _ _ _ _ HH6.out (by decide) (by decide) (by decide))
          clear t3 b3 s3 C7 K6 S6 K7 S7 HX6 HH6 HT5 m3 hl6
          have HF := Lib.hid (show (TA.add (tlInts [x.from_, x.till, x.to])).add (tlTexts [x.kind]) = u2.add (tlAll tlHnd (y.handlers.take (i + 1))) by rw [HSN.out, HTA.out]; simp only [tlHnd, Tl.add_assoc])
          go_wp2_with fail
          have hwr := wrap_next h1 (hg.2.2.2.1.1)
          refine ⟨⟨i + 1, h1, by rw [hwr], by rw [← HF.out]; exact HT7.out, K8.out, S8.out, HH8.out⟩, ?_⟩
          rw [hwr]
          exact less_next h1
        · have hie : i = y.handlers.length := by omega
          subst hie
          rw [List.take_length] at hT
          have HT23 := Lib.hid hT
          have KK23 := Lib.hid hK
          have SS23 := Lib.hid hS
          have HX23 := Lib.hid hH
          clear hT hK hS hH
          have e3 : wr.cell? ⟨w.heap.size, 5, none⟩ = some (.slice A5 y.lines.length c5) := by rw [Lib.cell_of_heap HX23.out]; rfl
          have hq4 := (Array.getElem?_eq_some_iff.1 HX23.out).1
          obtain ⟨u3, hu2⟩ : ∃ z, z = u2.add (tlAll tlHnd y.handlers) := ⟨_, rfl⟩
          rw [← hu2] at HT23
          have HV23 := Lib.hid hu2
          have HR23 := Lib.hid (fun (i : Nat) => lno_room t u1 u2 u3 y HU2.out HV23.out (by rw [← HU1.out]; simp [tlInts]) hsz i)
          clear hu2
          go_upto_region 17 with fail
          clear e3 hq4
          go_loopw [95] (fun u wr => ∃ i : Nat, i ≤ y.lines.length ∧ u = .int .i64 i ∧ TBox wr w0.heap.size b (u3.add (tlAll tlLno (y.lines.take i))) ∧ Below w0.heap.size w wr ∧ Still w wr ∧ wr.heap[w.heap.size]? = some (.cells #[.int .i64 y.stack, .int .i64 y.locals, .slice A2 y.ops.length c2, .slice A3 y.handlers.length c3, .int .i64 y.has, .slice A5 y.lines.length c5, .slice A6 y.slots.length c6] 29)) (fun u _ => y.lines.length - (intOf u).toNat)
          case atStart => exact ⟨0, Nat.zero_le _, rfl, by simpa [tlAll, Tl.add_nil] using HT23.out, KK23.out, SS23.out, HX23.out⟩
          case round =>
            obtain ⟨i, hil, rfl, hT, hK, hS, hH⟩ := hrel
            have HKi := Lib.hid hK
            have HSi := Lib.hid hS
            have HHi := Lib.hid hH
            by_cases h1 : i < y.lines.length
            · obtain ⟨g, o, x, cx, rfl, hgw, hx, hrx, hcl, hcx⟩ := HS5.out.at_ h1
              have hsi := HR23.out i
              have HSN := Lib.hid (tlAll_snoc tlLno hx)
              obtain ⟨TA, hTA⟩ : ∃ TA, TA = u3.add (tlAll tlLno (y.lines.take i)) := ⟨_, rfl⟩
              rw [← hTA] at hT hsi
              have HTi := Lib.hid hT
              have HTA := Lib.hid hTA
              clear hTA
              have hcw := hcx.grow (HB.out.trans HKi.out) hgw
              obtain rfl := Lno.leafs hrx
              have hgr : g < wr.heap.size := Nat.lt_of_lt_of_le hgw (HB.out.trans HKi.out).size
              have f0 := hcw 0 _ rfl
              have f1 := hcw 1 _ rfl
              rw [Nat.add_zero] at f0
              clear hT hK hS hH hcw hcx hrx
              go_upto_region 19 with fail
              have k4 := (Below.refl wr.heap.size wr).alloc (Nat.le_refl _) (.cells #[.int .i64 x.at_, .int .i64 x.line] 80)
              have HX4 := Lib.hid (heap_alloc_new wr (.cells #[.int .i64 x.at_, .int .i64 x.line] 80))
              have hzr := Nat.le_trans hbs HKi.out.size
              have HT4 := Lib.hid (HTi.out.grow k4)
              have K4 := Lib.hid (HKi.out.trans (k4.mono hzr))
              have S4 := Lib.hid (HSi.out.trans (still_below k4))
              have HH4 := Lib.hid ((k4.block w.heap.size (Array.getElem?_eq_some_iff.1 HHi.out).1).trans HHi.out)
              have hz4 := Nat.le_trans hzr k4.size
              clear k4 f0 f1 HTi HKi HSi HHi
              generalize hW4 : wr.alloc (.cells #[.int .i64 x.at_, .int .i64 x.line] 80) = W4 at HX4 HT4 K4 S4 HH4 hz4 ⊢
              clear hW4
              have l0 : W4.cell? ⟨wr.heap.size, 0, none⟩ = some (.int .i64 x.at_) := by rw [Lib.cell_of_heap HX4.out]; rfl
              have l1 : W4.cell? ⟨wr.heap.size, 1, none⟩ = some (.int .i64 x.line) := by rw [Lib.cell_of_heap HX4.out]; rfl
              have hl4 := (Array.getElem?_eq_some_iff.1 HX4.out).1
              have k5 := (Below.refl W4.heap.size W4).alloc (Nat.le_refl _) (.cells #[.int .i64 x.at_, .int .i64 x.line] 3)
              have C5 := Lib.hid (ints_tell w0.heap.size b 2 (some ⟨W4.heap.size, 0, none⟩) _ [x.at_, x.line] _ (HT4.out.grow k5) (ints_new (heap_alloc_new W4 (.cells #[.int .i64 x.at_, .int .i64 x.line] 3)) [x.at_, x.line] rfl) (by simp only [List.length_cons, List.length_nil]; omega) (Nat.le_trans hz4 k5.size))
              have K5 := Lib.hid (k5.mono hz4)
              have S5 := Lib.hid (still_below k5)
              clear k5
              go_wp2_with fail
              refine C5.out.mono ?_
              rintro e x2 ⟨rfl, t2, b2, s2⟩
              have HT5 := Lib.hid t2
              have K6 := Lib.hid (K4.out.trans (K5.out.trans b2))
              have S6 := Lib.hid (S4.out.trans (S5.out.trans s2))
              have HX6 := Lib.hid ((S5.out.trans s2) _ _ _ _ HX4.out (by decide) (by decide) (by decide))
              have HH6 := Lib.hid ((S5.out.trans s2) _ _ _ _ HH4.out (by decide) (by decide) (by decide))
              have hz6 := Nat.le_trans hz4 (Nat.le_trans K5.out.size b2.size)
              clear t2 b2 s2 C5 K4 S4 K5 S5 HX4 HH4 HT4 l0 l1 hl4
              have HF := Lib.hid (show TA.add (tlInts [x.at_, x.line]) = u3.add (tlAll tlLno (y.lines.take (i + 1))) by rw [HSN.out, HTA.out]; simp only [tlLno, Tl.add_assoc])
              go_wp2_with fail
              have hwr := wrap_next h1 (hg.2.2.2.2.2.1.1)
              refine ⟨⟨i + 1, h1, by rw [hwr], by rw [← HF.out]; exact HT5.out, K6.out, S6.out, HH6.out⟩, ?_⟩
              rw [hwr]
              exact less_next h1
            · have hie : i = y.lines.length := by omega
              subst hie
              rw [List.take_length] at hT
              have HT24 := Lib.hid hT
              have KK24 := Lib.hid hK
              have SS24 := Lib.hid hS
              have HX24 := Lib.hid hH
              clear hT hK hS hH
              have e3 : wr.cell? ⟨w.heap.size, 6, none⟩ = some (.slice A6 y.slots.length c6) := by rw [Lib.cell_of_heap HX24.out]; rfl
              have hq4 := (Array.getElem?_eq_some_iff.1 HX24.out).1
              obtain ⟨u4, hu2⟩ : ∃ z, z = u3.add (tlAll tlLno y.lines) := ⟨_, rfl⟩
              rw [← hu2] at HT24
              have HV24 := Lib.hid hu2
              have HR24 := Lib.hid (fun (i : Nat) => slt_room t u1 u2 u3 u4 y HU2.out HV23.out HV24.out (by rw [← HU1.out]; simp [tlInts]) hsz i)
              clear hu2
              go_upto_region 22 with fail
              clear e3 hq4
              go_loopw [110] (fun u wr => ∃ i : Nat, i ≤ y.slots.length ∧ u = .int .i64 i ∧ TBox wr w0.heap.size b (u4.add (tlAll tlSlt (y.slots.take i))) ∧ Below w0.heap.size w wr ∧ Still w wr ∧ wr.heap[w.heap.size]? = some (.cells #[.int .i64 y.stack, .int .i64 y.locals, .slice A2 y.ops.length c2, .slice A3 y.handlers.length c3, .int .i64 y.has, .slice A5 y.lines.length c5, .slice A6 y.slots.length c6] 29)) (fun u _ => y.slots.length - (intOf u).toNat)
              case atStart => exact ⟨0, Nat.zero_le _, rfl, by simpa [tlAll, Tl.add_nil] using HT24.out, KK24.out, SS24.out, HX24.out⟩
              case round =>
                obtain ⟨i, hil, rfl, hT, hK, hS, hH⟩ := hrel
                have HKi := Lib.hid hK
                have HSi := Lib.hid hS
                have HHi := Lib.hid hH
                by_cases h1 : i < y.slots.length
                · obtain ⟨g, o, x, cx, rfl, hgw, hx, hrx, hcl, hcx⟩ := HS6.out.at_ h1
                  have hsi := HR24.out i
                  have HSN := Lib.hid (tlAll_snoc tlSlt hx)
                  obtain ⟨TA, hTA⟩ : ∃ TA, TA = u4.add (tlAll tlSlt (y.slots.take i)) := ⟨_, rfl⟩
                  rw [← hTA] at hT hsi
                  have HTi := Lib.hid hT
                  have HTA := Lib.hid hTA
                  clear hTA
                  have hcw := hcx.grow (HB.out.trans HKi.out) hgw
                  obtain rfl := Slt.leafs hrx
                  have hgr : g < wr.heap.size := Nat.lt_of_lt_of_le hgw (HB.out.trans HKi.out).size
                  have f0 := hcw 0 _ rfl
                  have f1 := hcw 1 _ rfl
                  have f2 := hcw 2 _ rfl
                  have f3 := hcw 3 _ rfl
                  have f4 := hcw 4 _ rfl
                  rw [Nat.add_zero] at f0
                  clear hT hK hS hH hcw hcx hrx
                  go_upto_region 24 with fail
                  have k4 := (Below.refl wr.heap.size wr).alloc (Nat.le_refl _) (.cells #[.int .i64 x.from_, .int .i64 x.till, .string (bs x.name), .string (bs x.desc), .int .i64 x.var] 82)
                  have HX4 := Lib.hid (heap_alloc_new wr (.cells #[.int .i64 x.from_, .int .i64 x.till, .string (bs x.name), .string (bs x.desc), .int .i64 x.var] 82))
                  have hzr := Nat.le_trans hbs HKi.out.size
                  have HT4 := Lib.hid (HTi.out.grow k4)
                  have K4 := Lib.hid (HKi.out.trans (k4.mono hzr))
                  have S4 := Lib.hid (HSi.out.trans (still_below k4))
                  have HH4 := Lib.hid ((k4.block w.heap.size (Array.getElem?_eq_some_iff.1 HHi.out).1).trans HHi.out)
                  have hz4 := Nat.le_trans hzr k4.size
                  clear k4 f0 f1 f2 f3 f4 HTi HKi HSi HHi
                  generalize hW4 : wr.alloc (.cells #[.int .i64 x.from_, .int .i64 x.till, .string (bs x.name), .string (bs x.desc), .int .i64 x.var] 82) = W4 at HX4 HT4 K4 S4 HH4 hz4 ⊢
                  clear hW4
                  have l0 : W4.cell? ⟨wr.heap.size, 0, none⟩ = some (.int .i64 x.from_) := by rw [Lib.cell_of_heap HX4.out]; rfl
                  have l1 : W4.cell? ⟨wr.heap.size, 1, none⟩ = some (.int .i64 x.till) := by rw [Lib.cell_of_heap HX4.out]; rfl
                  have l4 : W4.cell? ⟨wr.heap.size, 4, none⟩ = some (.int .i64 x.var) := by rw [Lib.cell_of_heap HX4.out]; rfl
                  have hl4 := (Array.getElem?_eq_some_iff.1 HX4.out).1
                  have k5 := (Below.refl W4.heap.size W4).alloc (Nat.le_refl _) (.cells #[.int .i64 x.from_, .int .i64 x.till, .int .i64 x.var] 3)
                  have C5 := Lib.hid (ints_tell w0.heap.size b 3 (some ⟨W4.heap.size, 0, none⟩) _ [x.from_, x.till, x.var] _ (HT4.out.grow k5) (ints_new (heap_alloc_new W4 (.cells #[.int .i64 x.from_, .int .i64 x.till, .int .i64 x.var] 3)) [x.from_, x.till, x.var] rfl) (by simp only [List.length_cons, List.length_nil]; omega) (Nat.le_trans hz4 k5.size))
                  have K5 := Lib.hid (k5.mono hz4)
                  have S5 := Lib.hid (still_below k5)
                  clear k5
                  go_upto_region 25 with fail
                  refine C5.out.mono ?_
                  rintro e x2 ⟨rfl, t2, b2, s2⟩
                  have HT5 := Lib.hid t2
                  have K6 := Lib.hid (K4.out.trans (K5.out.trans b2))
                  have S6 := Lib.hid (S4.out.trans (S5.out.trans s2))
                  have HX6 := Lib.hid ((S5.out.trans s2) _ _ _ _ HX4.out (by decide) (by decide) (by decide))
                  have HH6 := Lib.hid ((S5.out.trans s2) _ _ _ _ HH4.out (by decide) (by decide) (by decide))
                  have hz6 := Nat.le_trans hz4 (Nat.le_trans K5.out.size b2.size)
                  clear t2 b2 s2 C5 K4 S4 K5 S5 HX4 HH4 HT4 l0 l1 l4 hl4
                  have m2 : x2.cell? ⟨wr.heap.size, 2, none⟩ = some (.string (bs x.name)) := by rw [Lib.cell_of_heap HX6.out]; rfl
                  have m3 : x2.cell? ⟨wr.heap.size, 3, none⟩ = some (.string (bs x.desc)) := by rw [Lib.cell_of_heap HX6.out]; rfl
                  have hl6 := (Array.getElem?_eq_some_iff.1 HX6.out).1
                  have n5 : (TA.add (tlInts [x.from_, x.till, x.var])).1.length = TA.1.length + 3 ∧ (TA.add (tlInts [x.from_, x.till, x.var])).2.length = TA.2.length := by simp [Tl.add, tlInts]
                  have k7 := (Below.refl x2.heap.size x2).alloc (Nat.le_refl _) (.cells #[.string (bs x.name), .string (bs x.desc)] 9)
                  have C7 := Lib.hid (texts_tell w0.heap.size b 2 (some ⟨x2.heap.size, 0, none⟩) _ [x.name, x.desc] _ (HT5.out.grow k7) (txt_new (heap_alloc_new x2 (.cells #[.string (bs x.name), .string (bs x.desc)] 9)) [x.name, x.desc] rfl) (fun _ => txtAt_new (heap_alloc_new x2 (.cells #[.string (bs x.name), .string (bs x.desc)] 9))) (by rw [n5.1]; omega) (by rw [n5.2]; simp only [List.length_cons, List.length_nil]; omega) (Nat.le_trans hz6 k7.size))
                  have K7 := Lib.hid (k7.mono hz6)
                  have S7 := Lib.hid (still_below k7)
                  clear k7
                  go_upto_region 25 with fail
                  go_upto_region 26 with fail
                  refine C7.out.mono ?_
                  rintro e x3 ⟨rfl, t3, b3, s3⟩
                  have HT7 := Lib.hid t3
                  have K8 := Lib.hid (K6.out.trans (K7.out.trans b3))
                  have S8 := Lib.hid (S6.out.trans (S7.out.trans s3))
                  have HH8 := Lib.hid ((S7.out.trans s3) _ _ _ _ HH6.out (by decide) (by decide) (by decide))
                  clear t3 b3 s3 C7 K6 S6 K7 S7 HX6 HH6 HT5 m2 m3 hl6
                  have HF := Lib.hid (show (TA.add (tlInts [x.from_, x.till, x.var])).add (tlTexts [x.name, x.desc]) = u4.add (tlAll tlSlt (y.slots.take (i + 1))) by rw [HSN.out, HTA.out]; simp only [tlSlt, Tl.add_assoc])
                  go_wp2_with fail
                  have hwr := wrap_next h1 (hg.2.2.2.2.2.2.1)
                  refine ⟨⟨i + 1, h1, by rw [hwr], by rw [← HF.out]; exact HT7.out, K8.out, S8.out, HH8.out⟩, ?_⟩
                  rw [hwr]
                  exact less_next h1
                · have hie : i = y.slots.length := by omega
                  subst hie
                  rw [List.take_length] at hT
                  have HT25 := Lib.hid hT
                  have KK25 := Lib.hid hK
                  have SS25 := Lib.hid hS
                  have HX25 := Lib.hid hH
                  clear hT hK hS hH
                  have HE := Lib.hid (show u4.add (tlAll tlSlt y.slots) = t.add (tlCode y) by rw [HV24.out, HV23.out, HU2.out, ← HU1.out]; simp only [tlCode, Tl.add_assoc])
                  go_wp2_with fail
                  go_end0
                  exact ⟨rfl, by rw [← HE.out]; exact HT25.out, KK25.out, SS25.out⟩
end Go.Proofs.YtpjafbinlklojaaDoor

/- The walks of the document's layer 35: texts. -/
namespace Go.Proofs.YtpjafbinlklojaaDoor
open Go.RowKit Go.Deep

theorem slice_bs (l : List UInt8) (k1 k2 : IntKind) (a b : Int) (m n : Nat) (ha : a = (m : Int)) (hb : b = (n : Int)) (h1 : m ≤ n) (h2 : n ≤ l.length) (x : World) : (Instr.sliceAt 9 (.string (bs l)) (some (.int k1 a)) (some (.int k2 b)) none).run Tryd.prog x = .ok (.string (bs ((l.drop m).take (n - m)))) x := by
  subst ha hb
  have hz := bs_size l
  rw [run_sliceAt_string (h := Tryd.underlying9), run_slice_string (h := Tryd.underlying9) (h0 := by omega) (h1 := by omega) (h2 := by omega)]
  rw [← bs_extract]
  rfl
theorem slice_dig (n : Nat) (h : n < 16) (a b : Int) (ha : a = (n : Int)) (hb : b = (n : Int) + 1) (x : World) : (Instr.sliceAt 9 (.string ⟨#[48, 49, 50, 51, 52, 53, 54, 55, 56, 57, 65, 66, 67, 68, 69, 70]⟩) (some (.int .u8 a)) (some (.int .u8 b)) none).run Tryd.prog x = .ok (.string (bs [Li.hexd n])) x := by
  have : ∀ m : Fin 16, (([48, 49, 50, 51, 52, 53, 54, 55, 56, 57, 65, 66, 67, 68, 69, 70] : List UInt8).drop m.val).take (m.val + 1 - m.val) = [Li.hexd m.val] := by decide
  have h2 := slice_bs [48, 49, 50, 51, 52, 53, 54, 55, 56, 57, 65, 66, 67, 68, 69, 70] .u8 .u8 a b n (n + 1) ha (by rw [hb]; rfl) (by omega) (by simp; omega) x
  rw [this ⟨n, h⟩] at h2
  exact h2
theorem drop_one {l : List UInt8} {i : Nat} {c : UInt8} (h : l[i]? = some c) : (l.drop i).take 1 = [c] := by
  obtain ⟨h1, rfl⟩ := List.getElem?_eq_some_iff.1 h
  rw [List.drop_eq_getElem_cons h1]
  rfl
set_option maxHeartbeats 4000000 in
set_option maxRecDepth 100000 in
theorem rtext_any (l : List UInt8) (w : World) (hl : l.length ≤ 100000000) :
    Calls Tryd.prog 33 #[.string (bs l)] w fun e w' => e = .returned (.string (bs (Li.text l))) ∧ Below w.heap.size w w' := by
  have hzl := bs_size l
  go_enter Tryd.func33, Tryd.ntmps33
  go_wp2_with fail
  go_loopw [3, 4] (fun s3 s4 wr => ∃ i : Nat, i ≤ l.length ∧ s4 = .int .i64 i ∧ s3 = .string (bs (Li.text (l.take i))) ∧ Below w.heap.size w wr) (fun _ s4 _ => l.length - (intOf s4).toNat)
  case atStart => exact ⟨0, Nat.zero_le _, rfl, rfl, Below.refl _ _⟩
  case round =>
    obtain ⟨i, hil, rfl, rfl, hB⟩ := hrel
    have HB := Lib.hid hB
    clear hB
    by_cases h1 : i < l.length
    · obtain ⟨c, hcl⟩ : ∃ c, l[i]? = some c := ⟨_, List.getElem?_eq_getElem h1⟩
      have ic := fun x => index_bs l i c hcl x
      have hsn := Lib.hid (show Li.text (l.take (i + 1)) = Li.text (l.take i) ++ Li.show1 c by rw [take_snocI _ _ _ hcl, Li.text_snoc])
      have htl : (bs (Li.text (l.take i))).size ≤ 300000000 := by rw [bs_size]; have h2 := Li.text_len (l.take i); have h3 := List.length_take_le i l; have h4 := List.length_take_le' i l; omega
      have hc256 := c.toNat_lt
      by_cases ho : Li.odd c = true
      · have hcs : (c.toNat : Int) < 33 ∨ (¬ (c.toNat : Int) < 33 ∧ (126 : Int) < c.toNat) ∨ (¬ (c.toNat : Int) < 33 ∧ ¬ (126 : Int) < c.toNat ∧ ((c.toNat : Int) == 37) = true) := by
          simp [Li.odd] at ho; simp; omega
        have hsh := Lib.hid (show Li.show1 c = [37, Li.hexd (c.toNat / 16), Li.hexd (c.toNat % 16)] by unfold Li.show1; rw [if_pos ho])
        clear ho
        have s1 := fun x => slice_dig (c.toNat / 16) (by omega) ((c.toNat : Int) / 16) ((c.toNat : Int) / 16 + 1) (by omega) (by omega) x
        have s2 := fun x => slice_dig (c.toNat % 16) (by omega) ((c.toNat : Int) % 16) ((c.toNat : Int) % 16 + 1) (by omega) (by omega) x
        have hcat := Lib.hid (show bs (Li.text (l.take i)) ++ (⟨#[37]⟩ : ByteArray) ++ bs [Li.hexd (c.toNat / 16)] ++ bs [Li.hexd (c.toNat % 16)] = bs (Li.text (l.take (i + 1))) by rw [show (⟨#[37]⟩ : ByteArray) = bs [37] from rfl, bs_append, bs_append, bs_append, hsn.out, hsh.out]; simp)
        clear hcl
        have z1 : (bs [Li.hexd (c.toNat / 16)]).size = 1 := rfl
        have z2 : (bs [Li.hexd (c.toNat % 16)]).size = 1 := rfl
        rcases hcs with k1 | ⟨k1, k2⟩ | ⟨k1, k2, k3⟩
        all_goals
          go_upto_region 7 with fail
          go_quiet (fail)
          go_wp2_with fail
          refine ⟨⟨i + 1, h1, rfl, ?_, below_drewN HB.out _⟩, less_next h1⟩
          rw [hcat.out]
      · have k1 : ¬ (c.toNat : Int) < 33 := by simp [Li.odd] at ho; omega
        have k2 : ¬ (126 : Int) < c.toNat := by simp [Li.odd] at ho; omega
        have k3 : ((c.toNat : Int) == 37) = false := by simp [Li.odd] at ho; simp; omega
        have hsh := Lib.hid (show Li.show1 c = [c] by unfold Li.show1; rw [if_neg ho])
        have hcat := Lib.hid (show bs (Li.text (l.take i)) ++ bs [c] = bs (Li.text (l.take (i + 1))) by rw [bs_append, hsn.out, hsh.out])
        have hs := fun x => slice_bs l .i64 .i64 (i : Int) ((i : Int) + 1) i (i + 1) rfl rfl (by omega) h1 x
        rw [show (l.drop i).take (i + 1 - i) = [c] by rw [Nat.add_sub_cancel_left]; exact drop_one hcl] at hs
        have z1 : (bs [c]).size = 1 := rfl
        clear ho hcl
        go_wp2_with fail
        refine ⟨⟨i + 1, h1, rfl, ?_, HB.out⟩, less_next h1⟩
        rw [hcat.out]
    · go_wp2_with fail
      go_ret
      have hie : i = l.length := by omega
      subst hie
      exact ⟨by rw [List.take_length]; rfl, HB.out⟩
/-- A text, with a blank ahead. -/
theorem ror_any (l : List UInt8) (w : World) (hl : l.length ≤ 100000000) :
    Calls Tryd.prog 20 #[.string (bs l)] w fun e w' => e = .returned (.string (bs (Ri.or l))) ∧ Below w.heap.size w w' := by
  by_cases h : l = []
  · subst h
    have hnil : (bs ([] : List UInt8)).toList = [] := bs_list []
    go_enter Tryd.func20, Tryd.ntmps20
    go_wp2
    go_ret
    exact ⟨rfl, Below.refl _ _⟩
  · have hne : (bs l).toList.isEmpty = false := by rw [bs_list]; cases l with | nil => exact absurd rfl h | cons _ _ => rfl
    have HT := Lib.hid (rtext_any l w hl)
    have ho := Lib.hid (show (⟨#[32]⟩ : ByteArray) ++ bs (Li.text l) = bs (Ri.or l) by rw [show (⟨#[32]⟩ : ByteArray) = bs [32] from rfl, bs_append]; unfold Ri.or Li.or; rw [if_neg h]; rfl)
    have hz : (bs (Li.text l)).size ≤ 300000000 := by rw [bs_size]; have := Li.text_len l; omega
    go_enter Tryd.func20, Tryd.ntmps20
    go_wp2_with fail
    refine HT.out.mono ?_
    rintro e w1 ⟨rfl, hb⟩
    have hb' := Lib.hid hb
    clear hb
    go_wp2_with fail
    go_ret
    exact ⟨by rw [← ho.out]; rfl, hb'.out⟩
theorem rnum_len {ns : List Int} (h : ∀ x ∈ ns, I64 x) : (Ri.num ns).length ≤ ns.length * 21 := by
  unfold Ri.num
  induction ns with
  | nil => exact Nat.le_refl _
  | cons a ns ih =>
    have h1 := itoa_len (h a (List.mem_cons_self ..))
    have h2 := ih (fun x hx => h x (List.mem_cons_of_mem _ hx))
    rw [List.flatMap_cons, List.length_append, List.length_cons, List.length_cons]
    omega
theorem rnum_snoc {ns : List Int} {i : Nat} {x : Int} (h : ns[i]? = some x) : Ri.num (ns.take (i + 1)) = Ri.num (ns.take i) ++ 32 :: Lib.itoa x := by
  unfold Ri.num
  rw [take_snocI _ _ _ h, List.flatMap_append]
  simp
set_option maxHeartbeats 4000000 in
set_option maxRecDepth 100000 in
theorem rnum_any (ns : List Int) (bk o c : Nat) (w : World) (hcells : ∀ (j : Nat) x, ns[j]? = some x → w.cell? ⟨bk, o + j, none⟩ = some (.int .i64 x)) (hbk : bk < w.heap.size) (hI : ∀ x ∈ ns, I64 x) (hn : ns.length ≤ 1000000) :
    Calls Tryd.prog 21 #[.slice (some ⟨bk, o, none⟩) ns.length c] w fun e w' => e = .returned (.string (bs (Ri.num ns))) ∧ Below w.heap.size w w' := by
  have HC := Lib.hid hcells
  have HI := Lib.hid hI
  clear hcells hI
  go_enter Tryd.func21, Tryd.ntmps21
  go_wp2_with fail
  go_loopw [3, 8] (fun s3 s8 wr => ∃ i : Nat, i ≤ ns.length ∧ s8 = .int .i64 i ∧ s3 = .string (bs (Ri.num (ns.take i))) ∧ Below w.heap.size w wr) (fun _ s8 _ => ns.length - (intOf s8).toNat)
  case atStart => exact ⟨0, Nat.zero_le _, rfl, rfl, Below.refl _ _⟩
  case round =>
    obtain ⟨i, hil, rfl, rfl, hB⟩ := hrel
    have HB := Lib.hid hB
    by_cases h1 : i < ns.length
    · have hget := List.getElem?_eq_getElem h1
      have hcell : wr.cell? ⟨bk, o + i, none⟩ = some (.int .i64 ns[i]) := by rw [World.cell?_of_block (hB.block bk hbk)]; exact HC.out i _ hget
      have hx := HI.out _ (List.mem_of_getElem? hget)
      have hsn := Lib.hid (rnum_snoc hget)
      generalize ns[i] = x at *
      have hIt := Lib.hid (number_any x wr hx)
      have hbk2 : bk < wr.heap.size := Nat.lt_of_lt_of_le hbk hB.size
      have hzl : (bs (Ri.num (ns.take i))).size ≤ 21000000 := by
        rw [bs_size]
        have h2 := rnum_len (ns := ns.take i) (fun x hx => HI.out x (List.mem_of_mem_take hx))
        have h3 := List.length_take_le i ns
        omega
      have hzx : (bs (Lib.itoa x)).size ≤ 20 := by rw [bs_size]; exact itoa_len hx
      have hcat := Lib.hid (show bs (Ri.num (ns.take i)) ++ (⟨#[32]⟩ : ByteArray) ++ bs (Lib.itoa x) = bs (Ri.num (ns.take (i + 1))) by rw [show (⟨#[32]⟩ : ByteArray) = bs [32] from rfl, bs_append, bs_append, hsn.out, List.append_assoc]; rfl)
      clear hB hget hx
      go_wp2_with fail
      refine hIt.out.mono ?_
      rintro e w1 ⟨rfl, hb⟩
      have hb' := Lib.hid hb
      clear hb
      go_wp2_with fail
      refine ⟨⟨i + 1, h1, rfl, ?_, HB.out.trans (hb'.out.mono HB.out.size)⟩, less_next h1⟩
      rw [hcat.out]
    · go_wp2_with fail
      go_ret
      have hie : i = ns.length := by omega
      subst hie
      exact ⟨by rw [List.take_length]; rfl, HB.out⟩
theorem rnum_blk {g : Nat} {w : World} {C : Array Value} {e : TypeId} {fr : Nat × Nat} (hg : w.heap[g]? = some (.cells C e fr)) (ns : List Int) (n : Nat) (hC : C.toList = ic ns) (hn : n = ns.length) (hI : ∀ x ∈ ns, I64 x) (hN : ns.length ≤ 1000000) :
    Calls Tryd.prog 21 #[.slice (some ⟨g, 0, none⟩) n n] w fun e w' => e = .returned (.string (bs (Ri.num ns))) ∧ Below w.heap.size w w' := by
  subst hn
  refine rnum_any ns g 0 ns.length w (fun j x hx => ?_) (Array.getElem?_eq_some_iff.1 hg).1 hI hN
  rw [Nat.zero_add, Lib.cell_of_heap hg, ← Array.getElem?_toList, hC]
  simp [ic, hx]
end Go.Proofs.YtpjafbinlklojaaDoor

/- The walks of the document's layer 35: values. Printed by mk_rval.py. -/
namespace Go.Proofs.YtpjafbinlklojaaDoor
open Go.RowKit Go.Deep
theorem rior_len (l : List UInt8) : (Ri.or l).length ≤ 3 * l.length + 2 := by
  unfold Ri.or
  have := Li.or_len l
  simp only [List.length_cons]
  omega

set_option maxHeartbeats 8000000 in
set_option maxRecDepth 100000 in
theorem rvalue_text (tag : Int) (text cls name desc : List UInt8) (bits : Nat) (w : World) (hok : Li.V.ok ⟨tag, text, bits, cls, name, desc⟩) (hc : tag = 1 ∨ tag = 7 ∨ tag = 8) :
    Calls Tryd.prog 35 #[.agg #[.int .i64 tag, .string (bs text), .int .u64 bits, .string (bs cls), .string (bs name), .string (bs desc)]] w fun e w' => e = .returned (.string (bs (Li.line [Lib.itoa tag, Li.or text]))) ∧ Below w.heap.size w w' := by
  obtain ⟨h1, h2, h3, h4, h5, h6⟩ := hok
  dsimp only at h1 h2 h3 h4 h5 h6
  have HI := Lib.hid h1
  have zi : (bs (Lib.itoa tag)).size ≤ 20 := by rw [bs_size]; exact itoa_len h1
  have z_text : (bs (Ri.or text)).size ≤ 30000002 := by rw [bs_size]; have := rior_len text; omega
  have z_cls : (bs (Ri.or cls)).size ≤ 30000002 := by rw [bs_size]; have := rior_len cls; omega
  have z_name : (bs (Ri.or name)).size ≤ 30000002 := by rw [bs_size]; have := rior_len name; omega
  have z_desc : (bs (Ri.or desc)).size ≤ 30000002 := by rw [bs_size]; have := rior_len desc; omega
  have zd : (bs (Lib.decDigits bits)).size ≤ 20 := by rw [bs_size, Lib.decDigits_length]; have := nDigits_le 19 bits (by omega); omega
  have hcat := Lib.hid (show bs (Lib.itoa tag) ++ bs (Ri.or text) = bs (Li.line [Lib.itoa tag, Li.or text]) from by rw [bs_append, line_cons]; simp [Ri.or])
  have hcs : ((tag == 1) = true) ∨ ((tag == 1) = false ∧ (tag == 7) = true) ∨ ((tag == 1) = false ∧ (tag == 7) = false ∧ (tag == 8) = true) := by simp; omega
  clear hc h1
  rcases hcs with g0 | ⟨g0, g1⟩ | ⟨g0, g1, g2⟩
  all_goals
    go_enter Tryd.func35, Tryd.ntmps35
    go_wp2_with fail
    have J0 : Below w.heap.size w (w.alloc (.cells #[.int .i64 tag, .string (bs text), .int .u64 bits, .string (bs cls), .string (bs name), .string (bs desc)] 32)) := (Below.refl _ _).alloc (Nat.le_refl _) _
    refine (number_any _ _ HI.out).mono ?_
    rintro e w1 ⟨rfl, hb⟩
    have J1 := Lib.hid (Below.after' J0 hb (Nat.le_refl _))
    have q1 := (hb.block _ (by simp)).trans (heap_alloc_new w _)
    obtain ⟨f1, f2⟩ := blk_facts q1
    have z1 : w.heap.size < w1.heap.size := (Array.getElem?_eq_some_iff.1 q1).1
    clear hb q1 J0
    go_wp2_with fail
    refine (ror_any text _ (by omega)).mono ?_
    rintro e w2 ⟨rfl, hb⟩
    have J2 := Lib.hid (Below.after' J1.out hb (Nat.le_refl _))
    clear hb
    go_wp2_with fail
    go_ret
    exact ⟨by rw [← hcat.out]; rfl, J2.out⟩
set_option maxHeartbeats 8000000 in
set_option maxRecDepth 100000 in
theorem rvalue_bits (tag : Int) (text cls name desc : List UInt8) (bits : Nat) (w : World) (hok : Li.V.ok ⟨tag, text, bits, cls, name, desc⟩) (hc : tag = 3 ∨ tag = 4 ∨ tag = 5 ∨ tag = 6) :
    Calls Tryd.prog 35 #[.agg #[.int .i64 tag, .string (bs text), .int .u64 bits, .string (bs cls), .string (bs name), .string (bs desc)]] w fun e w' => e = .returned (.string (bs (Li.line [Lib.itoa tag, Lib.decDigits bits]))) ∧ Below w.heap.size w w' := by
  obtain ⟨h1, h2, h3, h4, h5, h6⟩ := hok
  dsimp only at h1 h2 h3 h4 h5 h6
  have HI := Lib.hid h1
  have zi : (bs (Lib.itoa tag)).size ≤ 20 := by rw [bs_size]; exact itoa_len h1
  have z_text : (bs (Ri.or text)).size ≤ 30000002 := by rw [bs_size]; have := rior_len text; omega
  have z_cls : (bs (Ri.or cls)).size ≤ 30000002 := by rw [bs_size]; have := rior_len cls; omega
  have z_name : (bs (Ri.or name)).size ≤ 30000002 := by rw [bs_size]; have := rior_len name; omega
  have z_desc : (bs (Ri.or desc)).size ≤ 30000002 := by rw [bs_size]; have := rior_len desc; omega
  have zd : (bs (Lib.decDigits bits)).size ≤ 20 := by rw [bs_size, Lib.decDigits_length]; have := nDigits_le 19 bits (by omega); omega
  have hcat := Lib.hid (show bs (Lib.itoa tag) ++ (⟨#[32]⟩ : ByteArray) ++ bs (Lib.decDigits bits) = bs (Li.line [Lib.itoa tag, Lib.decDigits bits]) from by rw [show (⟨#[32]⟩ : ByteArray) = bs [32] from rfl, bs_append, bs_append, line_cons]; simp)
  have hcs : ((tag == 1) = false ∧ (tag == 7) = false ∧ (tag == 8) = false ∧ (tag == 3) = true) ∨ ((tag == 1) = false ∧ (tag == 7) = false ∧ (tag == 8) = false ∧ (tag == 3) = false ∧ (tag == 4) = true) ∨ ((tag == 1) = false ∧ (tag == 7) = false ∧ (tag == 8) = false ∧ (tag == 3) = false ∧ (tag == 4) = false ∧ (tag == 5) = true) ∨ ((tag == 1) = false ∧ (tag == 7) = false ∧ (tag == 8) = false ∧ (tag == 3) = false ∧ (tag == 4) = false ∧ (tag == 5) = false ∧ (tag == 6) = true) := by simp; omega
  clear hc h1
  rcases hcs with ⟨g0, g1, g2, g3⟩ | ⟨g0, g1, g2, g3, g4⟩ | ⟨g0, g1, g2, g3, g4, g5⟩ | ⟨g0, g1, g2, g3, g4, g5, g6⟩
  all_goals
    go_enter Tryd.func35, Tryd.ntmps35
    go_wp2_with fail
    have J0 : Below w.heap.size w (w.alloc (.cells #[.int .i64 tag, .string (bs text), .int .u64 bits, .string (bs cls), .string (bs name), .string (bs desc)] 32)) := (Below.refl _ _).alloc (Nat.le_refl _) _
    refine (number_any _ _ HI.out).mono ?_
    rintro e w1 ⟨rfl, hb⟩
    have J1 := Lib.hid (Below.after' J0 hb (Nat.le_refl _))
    have q1 := (hb.block _ (by simp)).trans (heap_alloc_new w _)
    obtain ⟨f1, f2⟩ := blk_facts q1
    have z1 : w.heap.size < w1.heap.size := (Array.getElem?_eq_some_iff.1 q1).1
    clear hb q1 J0
    go_wp2_with fail
    refine (big_any bits _ (by omega)).mono ?_
    rintro e w2 ⟨rfl, hb⟩
    have J2 := Lib.hid (Below.after' J1.out hb (Nat.le_refl _))
    clear hb
    go_wp2_with fail
    go_ret
    exact ⟨by rw [← hcat.out]; rfl, J2.out⟩
set_option maxHeartbeats 8000000 in
set_option maxRecDepth 100000 in
theorem rvalue_pair (tag : Int) (text cls name desc : List UInt8) (bits : Nat) (w : World) (hok : Li.V.ok ⟨tag, text, bits, cls, name, desc⟩) (hc : tag = 12) :
    Calls Tryd.prog 35 #[.agg #[.int .i64 tag, .string (bs text), .int .u64 bits, .string (bs cls), .string (bs name), .string (bs desc)]] w fun e w' => e = .returned (.string (bs (Li.line [Lib.itoa tag, Li.or name, Li.or desc]))) ∧ Below w.heap.size w w' := by
  obtain ⟨h1, h2, h3, h4, h5, h6⟩ := hok
  dsimp only at h1 h2 h3 h4 h5 h6
  have HI := Lib.hid h1
  have zi : (bs (Lib.itoa tag)).size ≤ 20 := by rw [bs_size]; exact itoa_len h1
  have z_text : (bs (Ri.or text)).size ≤ 30000002 := by rw [bs_size]; have := rior_len text; omega
  have z_cls : (bs (Ri.or cls)).size ≤ 30000002 := by rw [bs_size]; have := rior_len cls; omega
  have z_name : (bs (Ri.or name)).size ≤ 30000002 := by rw [bs_size]; have := rior_len name; omega
  have z_desc : (bs (Ri.or desc)).size ≤ 30000002 := by rw [bs_size]; have := rior_len desc; omega
  have zd : (bs (Lib.decDigits bits)).size ≤ 20 := by rw [bs_size, Lib.decDigits_length]; have := nDigits_le 19 bits (by omega); omega
  have hcat := Lib.hid (show bs (Lib.itoa tag) ++ bs (Ri.or name) ++ bs (Ri.or desc) = bs (Li.line [Lib.itoa tag, Li.or name, Li.or desc]) from by rw [bs_append, bs_append, line_cons]; simp [Ri.or])
  have hcs : ((tag == 1) = false ∧ (tag == 7) = false ∧ (tag == 8) = false ∧ (tag == 3) = false ∧ (tag == 4) = false ∧ (tag == 5) = false ∧ (tag == 6) = false ∧ (tag == 12) = true) := by simp; omega
  clear hc h1
  rcases hcs with ⟨g0, g1, g2, g3, g4, g5, g6, g7⟩
  all_goals
    go_enter Tryd.func35, Tryd.ntmps35
    go_wp2_with fail
    have J0 : Below w.heap.size w (w.alloc (.cells #[.int .i64 tag, .string (bs text), .int .u64 bits, .string (bs cls), .string (bs name), .string (bs desc)] 32)) := (Below.refl _ _).alloc (Nat.le_refl _) _
    refine (number_any _ _ HI.out).mono ?_
    rintro e w1 ⟨rfl, hb⟩
    have J1 := Lib.hid (Below.after' J0 hb (Nat.le_refl _))
    have q1 := (hb.block _ (by simp)).trans (heap_alloc_new w _)
    obtain ⟨f1, f2⟩ := blk_facts q1
    have z1 : w.heap.size < w1.heap.size := (Array.getElem?_eq_some_iff.1 q1).1
    clear hb q1 J0
    go_wp2_with fail
    have z1d : w.heap.size < w1.drew.heap.size := z1
    refine wp_region_ord 10 (by kernel_rfl) (by kernel_rfl) (fun _ _ d _ _ h => by cases d <;> exact h) ?_
    simp only [List.take_succ_cons, List.take_zero, List.drop_succ_cons, List.drop_zero]
    repeat (first | (refine wpLex_skip rfl ?_; simp only [Act.put, List.setIfInBounds_toArray, List.set_cons_zero, List.set_cons_succ]) | (refine wpLex_fix rfl ?_; intro F hF R hR hne K hK; go_big_quiet_op; first | (go_big_quiet_on; clear hne hR R hF F) | (apply Exists.intro; refine ⟨fun g => ?_, ?_⟩; (((first | (rw [if_neg (by first | omega | (simp; omega))]; exact ⟨rfl, rfl⟩) | (rw [GrE.cell g _ _ z1d]; go_simp; first | exact ⟨rfl, rfl⟩ | rfl) | (go_at_call 20; exact GrE.call hR (ror_any _ _ (by omega)))))); go_big_quiet_on; clear hne hR R hF F)) | (apply wpLex_blk rfl; (focus (intro x hx; go_simp; exact ⟨rfl, rfl⟩)); intro B hB; simp only [Act.put, blkVal, List.setIfInBounds_toArray, List.set_cons_zero, List.set_cons_succ]))
    refine wpLex_nil ?_
    intro w1 hw1
    have J2 := Lib.hid (Below.after' (Below.drew J1.out) hw1.below (Nat.le_refl _))
    clear hw1
    go_wp2_with fail
    go_ret
    exact ⟨by rw [← hcat.out]; rfl, J2.out⟩
set_option maxHeartbeats 8000000 in
set_option maxRecDepth 100000 in
theorem rvalue_three (tag : Int) (text cls name desc : List UInt8) (bits : Nat) (w : World) (hok : Li.V.ok ⟨tag, text, bits, cls, name, desc⟩) (hc : tag = 9 ∨ tag = 10 ∨ tag = 11) :
    Calls Tryd.prog 35 #[.agg #[.int .i64 tag, .string (bs text), .int .u64 bits, .string (bs cls), .string (bs name), .string (bs desc)]] w fun e w' => e = .returned (.string (bs (Li.line [Lib.itoa tag, Li.or cls, Li.or name, Li.or desc]))) ∧ Below w.heap.size w w' := by
  obtain ⟨h1, h2, h3, h4, h5, h6⟩ := hok
  dsimp only at h1 h2 h3 h4 h5 h6
  have HI := Lib.hid h1
  have zi : (bs (Lib.itoa tag)).size ≤ 20 := by rw [bs_size]; exact itoa_len h1
  have z_text : (bs (Ri.or text)).size ≤ 30000002 := by rw [bs_size]; have := rior_len text; omega
  have z_cls : (bs (Ri.or cls)).size ≤ 30000002 := by rw [bs_size]; have := rior_len cls; omega
  have z_name : (bs (Ri.or name)).size ≤ 30000002 := by rw [bs_size]; have := rior_len name; omega
  have z_desc : (bs (Ri.or desc)).size ≤ 30000002 := by rw [bs_size]; have := rior_len desc; omega
  have zd : (bs (Lib.decDigits bits)).size ≤ 20 := by rw [bs_size, Lib.decDigits_length]; have := nDigits_le 19 bits (by omega); omega
  have hcat := Lib.hid (show bs (Lib.itoa tag) ++ bs (Ri.or cls) ++ bs (Ri.or name) ++ bs (Ri.or desc) = bs (Li.line [Lib.itoa tag, Li.or cls, Li.or name, Li.or desc]) from by rw [bs_append, bs_append, bs_append, line_cons]; simp [Ri.or])
  have hcs : ((tag == 1) = false ∧ (tag == 7) = false ∧ (tag == 8) = false ∧ (tag == 3) = false ∧ (tag == 4) = false ∧ (tag == 5) = false ∧ (tag == 6) = false ∧ (tag == 12) = false ∧ (tag == 9) = true) ∨ ((tag == 1) = false ∧ (tag == 7) = false ∧ (tag == 8) = false ∧ (tag == 3) = false ∧ (tag == 4) = false ∧ (tag == 5) = false ∧ (tag == 6) = false ∧ (tag == 12) = false ∧ (tag == 9) = false ∧ (tag == 10) = true) ∨ ((tag == 1) = false ∧ (tag == 7) = false ∧ (tag == 8) = false ∧ (tag == 3) = false ∧ (tag == 4) = false ∧ (tag == 5) = false ∧ (tag == 6) = false ∧ (tag == 12) = false ∧ (tag == 9) = false ∧ (tag == 10) = false ∧ (tag == 11) = true) := by simp; omega
  clear hc h1
  rcases hcs with ⟨g0, g1, g2, g3, g4, g5, g6, g7, g8⟩ | ⟨g0, g1, g2, g3, g4, g5, g6, g7, g8, g9⟩ | ⟨g0, g1, g2, g3, g4, g5, g6, g7, g8, g9, g10⟩
  all_goals
    go_enter Tryd.func35, Tryd.ntmps35
    go_wp2_with fail
    have J0 : Below w.heap.size w (w.alloc (.cells #[.int .i64 tag, .string (bs text), .int .u64 bits, .string (bs cls), .string (bs name), .string (bs desc)] 32)) := (Below.refl _ _).alloc (Nat.le_refl _) _
    refine (number_any _ _ HI.out).mono ?_
    rintro e w1 ⟨rfl, hb⟩
    have J1 := Lib.hid (Below.after' J0 hb (Nat.le_refl _))
    have q1 := (hb.block _ (by simp)).trans (heap_alloc_new w _)
    obtain ⟨f1, f2⟩ := blk_facts q1
    have z1 : w.heap.size < w1.heap.size := (Array.getElem?_eq_some_iff.1 q1).1
    clear hb q1 J0
    go_wp2_with fail
    have z1d : w.heap.size < w1.drew.heap.size := z1
    refine wp_region_ord 14 (by kernel_rfl) (by kernel_rfl) (fun _ _ d _ _ h => by cases d <;> exact h) ?_
    simp only [List.take_succ_cons, List.take_zero, List.drop_succ_cons, List.drop_zero]
    repeat (first | (refine wpLex_skip rfl ?_; simp only [Act.put, List.setIfInBounds_toArray, List.set_cons_zero, List.set_cons_succ]) | (refine wpLex_fix rfl ?_; intro F hF R hR hne K hK; go_big_quiet_op; first | (go_big_quiet_on; clear hne hR R hF F) | (apply Exists.intro; refine ⟨fun g => ?_, ?_⟩; (((first | (rw [if_neg (by first | omega | (simp; omega))]; exact ⟨rfl, rfl⟩) | (rw [GrE.cell g _ _ z1d]; go_simp; first | exact ⟨rfl, rfl⟩ | rfl) | (go_at_call 20; exact GrE.call hR (ror_any _ _ (by omega)))))); go_big_quiet_on; clear hne hR R hF F)) | (apply wpLex_blk rfl; (focus (intro x hx; go_simp; exact ⟨rfl, rfl⟩)); intro B hB; simp only [Act.put, blkVal, List.setIfInBounds_toArray, List.set_cons_zero, List.set_cons_succ]))
    refine wpLex_nil ?_
    intro w1 hw1
    have J2 := Lib.hid (Below.after' (Below.drew J1.out) hw1.below (Nat.le_refl _))
    clear hw1
    go_wp2_with fail
    go_ret
    exact ⟨by rw [← hcat.out]; rfl, J2.out⟩
set_option maxHeartbeats 8000000 in
set_option maxRecDepth 100000 in
theorem rvalue_none (tag : Int) (text cls name desc : List UInt8) (bits : Nat) (w : World) (hok : Li.V.ok ⟨tag, text, bits, cls, name, desc⟩) (hc : ¬ (tag = 1 ∨ tag = 7 ∨ tag = 8) ∧ ¬ (tag = 3 ∨ tag = 4 ∨ tag = 5 ∨ tag = 6) ∧ tag ≠ 12 ∧ ¬ (tag = 9 ∨ tag = 10 ∨ tag = 11)) :
    Calls Tryd.prog 35 #[.agg #[.int .i64 tag, .string (bs text), .int .u64 bits, .string (bs cls), .string (bs name), .string (bs desc)]] w fun e w' => e = .returned (.string (bs (Lib.itoa tag))) ∧ Below w.heap.size w w' := by
  obtain ⟨h1, h2, h3, h4, h5, h6⟩ := hok
  dsimp only at h1 h2 h3 h4 h5 h6
  have HI := Lib.hid h1
  have zi : (bs (Lib.itoa tag)).size ≤ 20 := by rw [bs_size]; exact itoa_len h1
  have z_text : (bs (Ri.or text)).size ≤ 30000002 := by rw [bs_size]; have := rior_len text; omega
  have z_cls : (bs (Ri.or cls)).size ≤ 30000002 := by rw [bs_size]; have := rior_len cls; omega
  have z_name : (bs (Ri.or name)).size ≤ 30000002 := by rw [bs_size]; have := rior_len name; omega
  have z_desc : (bs (Ri.or desc)).size ≤ 30000002 := by rw [bs_size]; have := rior_len desc; omega
  have zd : (bs (Lib.decDigits bits)).size ≤ 20 := by rw [bs_size, Lib.decDigits_length]; have := nDigits_le 19 bits (by omega); omega
  have hcat := Lib.hid (show bs (Lib.itoa tag) = bs (Lib.itoa tag) from rfl)
  have hcs : ((tag == 1) = false ∧ (tag == 7) = false ∧ (tag == 8) = false ∧ (tag == 3) = false ∧ (tag == 4) = false ∧ (tag == 5) = false ∧ (tag == 6) = false ∧ (tag == 12) = false ∧ (tag == 9) = false ∧ (tag == 10) = false ∧ (tag == 11) = false) := by simp; omega
  clear hc h1
  rcases hcs with ⟨g0, g1, g2, g3, g4, g5, g6, g7, g8, g9, g10⟩
  all_goals
    go_enter Tryd.func35, Tryd.ntmps35
    go_wp2_with fail
    have J0 : Below w.heap.size w (w.alloc (.cells #[.int .i64 tag, .string (bs text), .int .u64 bits, .string (bs cls), .string (bs name), .string (bs desc)] 32)) := (Below.refl _ _).alloc (Nat.le_refl _) _
    refine (number_any _ _ HI.out).mono ?_
    rintro e w1 ⟨rfl, hb⟩
    have J1 := Lib.hid (Below.after' J0 hb (Nat.le_refl _))
    have q1 := (hb.block _ (by simp)).trans (heap_alloc_new w _)
    obtain ⟨f1, f2⟩ := blk_facts q1
    have z1 : w.heap.size < w1.heap.size := (Array.getElem?_eq_some_iff.1 q1).1
    clear hb q1 J0
    go_wp2_with fail
    go_ret
    exact ⟨rfl, J1.out⟩
theorem rvalue_any (v : Li.V) (w : World) (hok : v.ok) : Calls Tryd.prog 35 #[v.val] w fun e w' => e = .returned (.string (bs (Li.value v))) ∧ Below w.heap.size w w' := by
  obtain ⟨tag, text, bits, cls, name, desc⟩ := v
  unfold Li.value Li.V.val
  dsimp only
  by_cases h1 : tag = 1 ∨ tag = 7 ∨ tag = 8
  · rw [if_pos h1]; exact rvalue_text tag text cls name desc bits w hok h1
  · rw [if_neg h1]
    by_cases h2 : tag = 3 ∨ tag = 4 ∨ tag = 5 ∨ tag = 6
    · rw [if_pos h2]; exact rvalue_bits tag text cls name desc bits w hok h2
    · rw [if_neg h2]
      by_cases h3 : tag = 12
      · rw [if_pos h3]; exact rvalue_pair tag text cls name desc bits w hok h3
      · rw [if_neg h3]
        by_cases h4 : tag = 9 ∨ tag = 10 ∨ tag = 11
        · rw [if_pos h4]; exact rvalue_three tag text cls name desc bits w hok h4
        · rw [if_neg h4]; exact rvalue_none tag text cls name desc bits w hok ⟨h1, h2, h3, h4⟩
end Go.Proofs.YtpjafbinlklojaaDoor

/- The walk of layer 20's list: attributes told. -/
namespace Go.Proofs.YtpjafbinlklojaaDoor
open Go.RowKit Go.Deep

set_option maxRecDepth 100000 in
set_option maxHeartbeats 8000000 in
theorem attrs_tell (w0 w : World) (b : Nat) (t : Tl) (y : Atr) (cs : List Value) (hr : Atr.rd w0 cs y) (hg : y.good) (hB : Below w0.heap.size w0 w) (h : TBox w w0.heap.size b t) (hsz : t.1.length + t.2.length + (tlAtr y).size ≤ 100000000) :
    Calls Tryd.prog 29 #[.pointer (some ⟨b, 0, none⟩), .agg cs.toArray] w fun e w' => e = .returned (.tuple #[]) ∧ TBox w' w0.heap.size b (t.add (tlAtr y)) ∧ Below w0.heap.size w w' ∧ Still w w' := by
  have hcode := hr.2.2.1
  obtain ⟨B2, d2, B3, d3, B5, d5, B6, d6, Bt, dt, Bi, di, rfl, _, _, _, _, ⟨st, zt⟩, ⟨si, zi⟩⟩ := Atr.leafs hr
  have HC := Lib.hid hcode
  have hbs := hB.size
  have k1 := (Below.refl w.heap.size w).alloc (Nat.le_refl _) (.cells #[.int .i64 y.has, .int .i64 y.code.stack, .int .i64 y.code.locals, .slice B2 y.code.ops.length d2, .slice B3 y.code.handlers.length d3, .int .i64 y.code.has, .slice B5 y.code.lines.length d5, .slice B6 y.code.slots.length d6, .int .i64 y.value.tag, .string (bs y.value.text), .int .u64 y.value.bits, .string (bs y.value.cls), .string (bs y.value.name), .string (bs y.value.desc), .slice Bt y.throws.length dt, .slice Bi y.inners.length di, .string (bs y.signature), .string (bs y.source)] 35)
  have HX := Lib.hid (heap_alloc_new w (.cells #[.int .i64 y.has, .int .i64 y.code.stack, .int .i64 y.code.locals, .slice B2 y.code.ops.length d2, .slice B3 y.code.handlers.length d3, .int .i64 y.code.has, .slice B5 y.code.lines.length d5, .slice B6 y.code.slots.length d6, .int .i64 y.value.tag, .string (bs y.value.text), .int .u64 y.value.bits, .string (bs y.value.cls), .string (bs y.value.name), .string (bs y.value.desc), .slice Bt y.throws.length dt, .slice Bi y.inners.length di, .string (bs y.signature), .string (bs y.source)] 35))
  have HT := Lib.hid (h.grow k1)
  have K1 := Lib.hid (k1.mono hbs)
  have S1 := Lib.hid (still_below k1)
  have hz1 := Nat.le_trans hbs k1.size
  have HSt := Lib.hid st
  have HSv := Lib.hid si
  have HB := Lib.hid hB
  clear k1 h st si hB hr hcode
  go_enter Tryd.func29, Tryd.ntmps29
  go_upto_region 1 with fail
  generalize w.alloc (.cells #[.int .i64 y.has, .int .i64 y.code.stack, .int .i64 y.code.locals, .slice B2 y.code.ops.length d2, .slice B3 y.code.handlers.length d3, .int .i64 y.code.has, .slice B5 y.code.lines.length d5, .slice B6 y.code.slots.length d6, .int .i64 y.value.tag, .string (bs y.value.text), .int .u64 y.value.bits, .string (bs y.value.cls), .string (bs y.value.name), .string (bs y.value.desc), .slice Bt y.throws.length dt, .slice Bi y.inners.length di, .string (bs y.signature), .string (bs y.source)] 35) = W at HX HT K1 S1 hz1 ⊢
  have hq := (Array.getElem?_eq_some_iff.1 HX.out).1
  have d0 : W.cell? ⟨w.heap.size, 0, none⟩ = some (.int .i64 y.has) := by rw [Lib.cell_of_heap HX.out]; rfl
  have d15 : W.cell? ⟨w.heap.size, 15, none⟩ = some (.slice Bi y.inners.length di) := by rw [Lib.cell_of_heap HX.out]; rfl
  have k2 := (Below.refl W.heap.size W).alloc (Nat.le_refl _) (.cells #[.int .i64 y.has, .int .i64 (y.inners.length : Int)] 3)
  have C1 := Lib.hid (ints_tell w0.heap.size b 2 (some ⟨W.heap.size, 0, none⟩) t [y.has, (y.inners.length : Int)] _ (HT.out.grow k2) (ints_new (heap_alloc_new W (.cells #[.int .i64 y.has, .int .i64 (y.inners.length : Int)] 3)) [y.has, (y.inners.length : Int)] rfl) (by simp only [List.length_cons, List.length_nil]; omega) (Nat.le_trans hz1 k2.size))
  have K2 := Lib.hid (k2.mono hz1)
  have S2 := Lib.hid (still_below k2)
  clear k2
  go_upto_region 2 with fail
  refine C1.out.mono ?_
  rintro e x1 ⟨rfl, t1, b1, s1⟩
  have HT1 := Lib.hid t1
  have K3 := Lib.hid (K1.out.trans (K2.out.trans b1))
  have S3 := Lib.hid (S1.out.trans (S2.out.trans s1))
  have HX3 := Lib.hid ((S2.out.trans s1) _ _ _ _ HX.out (by decide) (by decide) (by decide))
  clear t1 b1 s1 C1 K1 K2 S1 S2 HX HT d0 d15 hq hz1
  have e1 : x1.cell? ⟨w.heap.size, 1, none⟩ = some (.int .i64 y.code.stack) := by rw [Lib.cell_of_heap HX3.out]; rfl
  have e2 : x1.cell? ⟨w.heap.size, 2, none⟩ = some (.int .i64 y.code.locals) := by rw [Lib.cell_of_heap HX3.out]; rfl
  have e3 : x1.cell? ⟨w.heap.size, 3, none⟩ = some (.slice B2 y.code.ops.length d2) := by rw [Lib.cell_of_heap HX3.out]; rfl
  have e4 : x1.cell? ⟨w.heap.size, 4, none⟩ = some (.slice B3 y.code.handlers.length d3) := by rw [Lib.cell_of_heap HX3.out]; rfl
  have e5 : x1.cell? ⟨w.heap.size, 5, none⟩ = some (.int .i64 y.code.has) := by rw [Lib.cell_of_heap HX3.out]; rfl
  have e6 : x1.cell? ⟨w.heap.size, 6, none⟩ = some (.slice B5 y.code.lines.length d5) := by rw [Lib.cell_of_heap HX3.out]; rfl
  have e7 : x1.cell? ⟨w.heap.size, 7, none⟩ = some (.slice B6 y.code.slots.length d6) := by rw [Lib.cell_of_heap HX3.out]; rfl
  have hz3 := Nat.le_trans hbs K3.out.size
  have hsa := atr_sizes y
  have n1 : (t.add (tlInts [y.has, (y.inners.length : Int)])).1.length = t.1.length + 2 ∧ (t.add (tlInts [y.has, (y.inners.length : Int)])).2.length = t.2.length := by simp [Tl.add, tlInts]
  have C2 := Lib.hid (code_tell w0 x1 b _ y.code _ HC.out hg.2.1 (HB.out.trans K3.out) HT1.out (by rw [n1.1, n1.2]; omega))
  go_upto_region 2 with fail
  go_upto_region 3 with fail
  refine C2.out.mono ?_
  rintro e x2 ⟨rfl, t2, b2, s2⟩
  have HT2 := Lib.hid t2
  have K4 := Lib.hid (K3.out.trans b2)
  have S4 := Lib.hid (S3.out.trans s2)
  have HX4 := Lib.hid (s2 _ _ _ _ HX3.out (by decide) (by decide) (by decide))
  have hz4 := Nat.le_trans hz3 b2.size
  clear t2 b2 s2 C2 S3 HX3 HT1 e1 e2 e3 e4 e5 e6 e7
  have e8 : x2.cell? ⟨w.heap.size, 8, none⟩ = some (.int .i64 y.value.tag) := by rw [Lib.cell_of_heap HX4.out]; rfl
  have e9 : x2.cell? ⟨w.heap.size, 9, none⟩ = some (.string (bs y.value.text)) := by rw [Lib.cell_of_heap HX4.out]; rfl
  have e10 : x2.cell? ⟨w.heap.size, 10, none⟩ = some (.int .u64 y.value.bits) := by rw [Lib.cell_of_heap HX4.out]; rfl
  have e11 : x2.cell? ⟨w.heap.size, 11, none⟩ = some (.string (bs y.value.cls)) := by rw [Lib.cell_of_heap HX4.out]; rfl
  have e12 : x2.cell? ⟨w.heap.size, 12, none⟩ = some (.string (bs y.value.name)) := by rw [Lib.cell_of_heap HX4.out]; rfl
  have e13 : x2.cell? ⟨w.heap.size, 13, none⟩ = some (.string (bs y.value.desc)) := by rw [Lib.cell_of_heap HX4.out]; rfl
  have n2 : ((t.add (tlInts [y.has, (y.inners.length : Int)])).add (tlCode y.code)).1.length + ((t.add (tlInts [y.has, (y.inners.length : Int)])).add (tlCode y.code)).2.length = t.1.length + t.2.length + 2 + ((tlCode y.code).1.length + (tlCode y.code).2.length) := by rw [len_add, len_add]; simp [tlInts]
  have n3 := len_size (tlCode y.code)
  have C3 := Lib.hid (value_tell w0.heap.size b _ y.value x2 HT2.out hg.2.2.1 (by omega) (by omega) hz4)
  go_upto_region 3 with fail
  go_upto_region 4 with fail
  refine C3.out.mono ?_
  rintro e x3 ⟨rfl, t3, b3, s3⟩
  have HT3 := Lib.hid t3
  have K5 := Lib.hid (K4.out.trans b3)
  have S5 := Lib.hid (S4.out.trans s3)
  have HX5 := Lib.hid (s3 _ _ _ _ HX4.out (by decide) (by decide) (by decide))
  have hz5 := Nat.le_trans hz4 b3.size
  clear t3 b3 s3 C3 S4 HX4 HT2 e8 e9 e10 e11 e12 e13
  have n4 : (((t.add (tlInts [y.has, (y.inners.length : Int)])).add (tlCode y.code)).add (tlVal y.value)).1.length + (((t.add (tlInts [y.has, (y.inners.length : Int)])).add (tlCode y.code)).add (tlVal y.value)).2.length = t.1.length + t.2.length + 2 + ((tlCode y.code).1.length + (tlCode y.code).2.length) + ((tlVal y.value).1.length + (tlVal y.value).2.length) := by rw [len_add, n2]
  have n5 := len_size (tlVal y.value)
  have n6 := size_texts y.throws
  have n7 := len_size (tlTexts y.throws)
  have n8 : (tlTexts y.throws).2.length = y.throws.length := rfl
  have e14 : x3.cell? ⟨w.heap.size, 14, none⟩ = some (.slice Bt y.throws.length dt) := by rw [Lib.cell_of_heap HX5.out]; rfl
  have C4 := Lib.hid (texts_tell w0.heap.size b dt Bt _ y.throws x3 HT3.out (HSt.out.grow (HB.out.trans K5.out)) (fun hp g' o' e => by obtain ⟨g, o, eq, hgl, _⟩ := HSt.out.2 hp; rw [eq] at e; cases e; exact .inl hgl) (by omega) (by omega) hz5)
  go_upto_region 4 with fail
  go_upto_region 5 with fail
  refine C4.out.mono ?_
  rintro e x4 ⟨rfl, t4, b4, s4⟩
  have K6 := Lib.hid (K5.out.trans b4)
  have S6 := Lib.hid (S5.out.trans s4)
  have HX6 := Lib.hid (s4 _ _ _ _ HX5.out (by decide) (by decide) (by decide))
  have hz6 := Nat.le_trans hz5 b4.size
  obtain ⟨UV, hu5⟩ : ∃ z, z = (((t.add (tlInts [y.has, (y.inners.length : Int)])).add (tlCode y.code)).add (tlVal y.value)).add (tlTexts y.throws) := ⟨_, rfl⟩
  rw [← hu5] at t4
  have HV5 := Lib.hid hu5
  have HR5 := Lib.hid (fun (i : Nat) => inr_room t UV y hu5 hsz i)
  have HT6 := Lib.hid t4
  clear t4 b4 s4 C4 S5 K5 HX5 HT3 e14 hu5 n1 n2 n3 n4 n5 n6 n7 n8 hz3 hz4 hz5
  have e15 : x4.cell? ⟨w.heap.size, 15, none⟩ = some (.slice Bi y.inners.length di) := by rw [Lib.cell_of_heap HX6.out]; rfl
  have hq4 := (Array.getElem?_eq_some_iff.1 HX6.out).1
  go_upto_region 6 with fail
  clear e15 hq4
  have KK6 := K6
  have SS6 := S6
  clear K6 S6
  go_loopw [29] (fun u wr => ∃ i : Nat, i ≤ y.inners.length ∧ u = .int .i64 i ∧ TBox wr w0.heap.size b (UV.add (tlAll tlInr (y.inners.take i))) ∧ Below w0.heap.size w wr ∧ Still w wr ∧ wr.heap[w.heap.size]? = some (.cells #[.int .i64 y.has, .int .i64 y.code.stack, .int .i64 y.code.locals, .slice B2 y.code.ops.length d2, .slice B3 y.code.handlers.length d3, .int .i64 y.code.has, .slice B5 y.code.lines.length d5, .slice B6 y.code.slots.length d6, .int .i64 y.value.tag, .string (bs y.value.text), .int .u64 y.value.bits, .string (bs y.value.cls), .string (bs y.value.name), .string (bs y.value.desc), .slice Bt y.throws.length dt, .slice Bi y.inners.length di, .string (bs y.signature), .string (bs y.source)] 35)) (fun u _ => y.inners.length - (intOf u).toNat)
  case atStart => exact ⟨0, Nat.zero_le _, rfl, by simpa [tlAll, Tl.add_nil] using HT6.out, KK6.out, SS6.out, HX6.out⟩
  case round =>
    obtain ⟨i, hil, rfl, hT, hK, hS, hH⟩ := hrel
    have HKi := Lib.hid hK
    have HSi := Lib.hid hS
    have HHi := Lib.hid hH
    by_cases h1 : i < y.inners.length
    · obtain ⟨g, o, x, cx, rfl, hgw, hx, hrx, hcl, hcx⟩ := HSv.out.at_ h1
      have hsi := HR5.out i
      have HSN := Lib.hid (tlAll_snoc tlInr hx)
      obtain ⟨TA, hTA⟩ : ∃ TA, TA = UV.add (tlAll tlInr (y.inners.take i)) := ⟨_, rfl⟩
      rw [← hTA] at hT hsi
      have HTi := Lib.hid hT
      have HTA := Lib.hid hTA
      clear hTA
      have hcw := hcx.grow (HB.out.trans HKi.out) hgw
      obtain rfl := Inr.leafs hrx
      have hgr : g < wr.heap.size := Nat.lt_of_lt_of_le hgw (HB.out.trans HKi.out).size
      have f0 := hcw 0 _ rfl
      have f1 := hcw 1 _ rfl
      have f2 := hcw 2 _ rfl
      have f3 := hcw 3 _ rfl
      rw [Nat.add_zero] at f0
      clear hT hK hS hH hcw hcx hrx
      go_upto_region 8 with fail
      have k4 := (Below.refl wr.heap.size wr).alloc (Nat.le_refl _) (.cells #[.string (bs x.cls), .string (bs x.outer), .string (bs x.name), .int .i64 x.flags] 57)
      have HX4 := Lib.hid (heap_alloc_new wr (.cells #[.string (bs x.cls), .string (bs x.outer), .string (bs x.name), .int .i64 x.flags] 57))
      have hzr := Nat.le_trans hbs HKi.out.size
      have HT4 := Lib.hid (HTi.out.grow k4)
      have K4 := Lib.hid (HKi.out.trans (k4.mono hzr))
      have S4 := Lib.hid (HSi.out.trans (still_below k4))
      have HH4 := Lib.hid ((k4.block w.heap.size (Array.getElem?_eq_some_iff.1 HHi.out).1).trans HHi.out)
      have hz4 := Nat.le_trans hzr k4.size
      clear k4 f0 f1 f2 f3 HTi HKi HSi HHi
      generalize hW4 : wr.alloc (.cells #[.string (bs x.cls), .string (bs x.outer), .string (bs x.name), .int .i64 x.flags] 57) = W4 at HX4 HT4 K4 S4 HH4 hz4 ⊢
      clear hW4
      have l3 : W4.cell? ⟨wr.heap.size, 3, none⟩ = some (.int .i64 x.flags) := by rw [Lib.cell_of_heap HX4.out]; rfl
      have hl4 := (Array.getElem?_eq_some_iff.1 HX4.out).1
      have k5 := (Below.refl W4.heap.size W4).alloc (Nat.le_refl _) (.cells #[.int .i64 x.flags] 3)
      have C5 := Lib.hid (ints_tell w0.heap.size b 1 (some ⟨W4.heap.size, 0, none⟩) _ [x.flags] _ (HT4.out.grow k5) (ints_new (heap_alloc_new W4 (.cells #[.int .i64 x.flags] 3)) [x.flags] rfl) (by simp only [List.length_cons, List.length_nil]; omega) (Nat.le_trans hz4 k5.size))
      have K5 := Lib.hid (k5.mono hz4)
      have S5 := Lib.hid (still_below k5)
      clear k5
      go_upto_region 9 with fail
      refine C5.out.mono ?_
      rintro e x2 ⟨rfl, t2, b2, s2⟩
      have HT5 := Lib.hid t2
      have K6 := Lib.hid (K4.out.trans (K5.out.trans b2))
      have S6 := Lib.hid (S4.out.trans (S5.out.trans s2))
      have HX6 := Lib.hid ((S5.out.trans s2) _ _ _ _ HX4.out (by decide) (by decide) (by decide))
      have HH6 := Lib.hid ((S5.out.trans s2) _ _ _ _ HH4.out (by decide) (by decide) (by decide))
      have hz6 := Nat.le_trans hz4 (Nat.le_trans K5.out.size b2.size)
      clear t2 b2 s2 C5 K4 S4 K5 S5 HX4 HH4 HT4 l3 hl4
      have m0 : x2.cell? ⟨wr.heap.size, 0, none⟩ = some (.string (bs x.cls)) := by rw [Lib.cell_of_heap HX6.out]; rfl
      have m1 : x2.cell? ⟨wr.heap.size, 1, none⟩ = some (.string (bs x.outer)) := by rw [Lib.cell_of_heap HX6.out]; rfl
      have m2 : x2.cell? ⟨wr.heap.size, 2, none⟩ = some (.string (bs x.name)) := by rw [Lib.cell_of_heap HX6.out]; rfl
      have hl6 := (Array.getElem?_eq_some_iff.1 HX6.out).1
      have n5 : (TA.add (tlInts [x.flags])).1.length = TA.1.length + 1 ∧ (TA.add (tlInts [x.flags])).2.length = TA.2.length := by simp [Tl.add, tlInts]
      have k7 := (Below.refl x2.heap.size x2).alloc (Nat.le_refl _) (.cells #[.string (bs x.cls), .string (bs x.outer), .string (bs x.name)] 9)
      have C7 := Lib.hid (texts_tell w0.heap.size b 3 (some ⟨x2.heap.size, 0, none⟩) _ [x.cls, x.outer, x.name] _ (HT5.out.grow k7) (txt_new (heap_alloc_new x2 (.cells #[.string (bs x.cls), .string (bs x.outer), .string (bs x.name)] 9)) [x.cls, x.outer, x.name] rfl) (fun _ => txtAt_new (heap_alloc_new x2 (.cells #[.string (bs x.cls), .string (bs x.outer), .string (bs x.name)] 9))) (by rw [n5.1]; omega) (by rw [n5.2]; simp only [List.length_cons, List.length_nil]; omega) (Nat.le_trans hz6 k7.size))
      have K7 := Lib.hid (k7.mono hz6)
      have S7 := Lib.hid (still_below k7)
      clear k7
      go_upto_region 9 with fail
      go_upto_region 10 with fail
      refine C7.out.mono ?_
      rintro e x3 ⟨rfl, t3, b3, s3⟩
      have HT7 := Lib.hid t3
      have K8 := Lib.hid (K6.out.trans (K7.out.trans b3))
      have S8 := Lib.hid (S6.out.trans (S7.out.trans s3))
      have HH8 := Lib.hid ((S7.out.trans s3) _ _ _ _ HH6.out (by decide) (by decide) (by decide))
      clear t3 b3 s3 C7 K6 S6 K7 S7 HX6 HH6 HT5 m0 m1 m2 hl6
      have HF := Lib.hid (show (TA.add (tlInts [x.flags])).add (tlTexts [x.cls, x.outer, x.name]) = UV.add (tlAll tlInr (y.inners.take (i + 1))) by rw [HSN.out, HTA.out]; simp only [tlInr, Tl.add_assoc])
      go_wp2_with fail
      have hwr := wrap_next h1 (hg.2.2.2.2.1.1)
      refine ⟨⟨i + 1, h1, by rw [hwr], by rw [← HF.out]; exact HT7.out, K8.out, S8.out, HH8.out⟩, ?_⟩
      rw [hwr]
      exact less_next h1
    · have hie : i = y.inners.length := by omega
      subst hie
      rw [List.take_length] at hT
      have HT7 := Lib.hid hT
      have KK7 := Lib.hid hK
      have SS7 := Lib.hid hS
      have HX7 := Lib.hid hH
      clear hT hK hS hH
      have hz7 := Nat.le_trans hbs KK7.out.size
      have e16 : wr.cell? ⟨w.heap.size, 16, none⟩ = some (.string (bs y.signature)) := by rw [Lib.cell_of_heap HX7.out]; rfl
      have e17 : wr.cell? ⟨w.heap.size, 17, none⟩ = some (.string (bs y.source)) := by rw [Lib.cell_of_heap HX7.out]; rfl
      have hq7 := (Array.getElem?_eq_some_iff.1 HX7.out).1
      have k7 := (Below.refl wr.heap.size wr).alloc (Nat.le_refl _) (.cells #[.string (bs y.signature), .string (bs y.source)] 9)
      have hr5 := HR5.out y.inners.length
      rw [List.take_length] at hr5
      have C7 := Lib.hid (texts_tell w0.heap.size b 2 (some ⟨wr.heap.size, 0, none⟩) _ [y.signature, y.source] _ (HT7.out.grow k7) (txt_new (heap_alloc_new wr (.cells #[.string (bs y.signature), .string (bs y.source)] 9)) [y.signature, y.source] rfl) (fun _ => txtAt_new (heap_alloc_new wr (.cells #[.string (bs y.signature), .string (bs y.source)] 9))) (by omega) (by simp only [List.length_cons, List.length_nil]; omega) (Nat.le_trans hz7 k7.size))
      have K7 := Lib.hid (k7.mono hz7)
      have S7 := Lib.hid (still_below k7)
      clear k7
      have HE := Lib.hid (show (UV.add (tlAll tlInr y.inners)).add (tlTexts [y.signature, y.source]) = t.add (tlAtr y) by rw [HV5.out]; simp only [tlAtr, Tl.add_assoc])
      go_wp2_with fail
      refine C7.out.mono ?_
      rintro e x8 ⟨rfl, t8, b8, s8⟩
      rw [HE.out] at t8
      have HT8 := Lib.hid t8
      have K8 := Lib.hid (KK7.out.trans (K7.out.trans b8))
      have S8 := Lib.hid (SS7.out.trans (S7.out.trans s8))
      clear t8 b8 s8 e16 e17 hq7 C7 K7 S7 HX7
      go_wp2_with fail
      go_end0
      exact ⟨rfl, HT8.out, K8.out, S8.out⟩
end Go.Proofs.YtpjafbinlklojaaDoor
