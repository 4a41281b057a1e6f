/- Joined texts: SameB, EqualM, SameC, ChkK. -/
import Derived.Test.YtibogpidnnodnaaGreatDoorPk8
import Derived.Test.YtibogpidnnodnaaGreatDoorPk9
import Derived.Test.YtibogpidnnodnaaGreatDoorPk7
import Derived.Test.YtibogpidnnodnaaGreatDoorPk6
/- The walks of check's sameCode, sameAttrs, sameMember. Printed by mk_same.py. -/
namespace Go.Proofs.YtibogpidnnodnaaGreatDoor
open Go.RowKit Go.Deep

set_option maxHeartbeats 8000000 in
set_option maxRecDepth 100000 in
theorem sameCode_any (w : World) (a b : Cde) (ca cb : List Value) (ha : Cde.rd w ca a) (hb : Cde.rd w cb b) (hga : a.good) (hgb : b.good) :
    Calls Tryz.prog 46 #[.agg ca.toArray, .agg cb.toArray] w fun e w' => TellsB (a = b) e ∧ Below w.heap.size w w' := by
  obtain ⟨A0, c0, A1, c1, A2, c2, A3, c3, rfl, ⟨s2, _⟩, ⟨s3, _⟩, ⟨s5, _⟩, ⟨s6, _⟩⟩ := Cde.leafs ha
  obtain ⟨B0, d0, B1, d1, B2, d2, B3, d3, rfl, ⟨t2, _⟩, ⟨t3, _⟩, ⟨t5, _⟩, ⟨t6, _⟩⟩ := Cde.leafs hb
  have RA2 := Lib.hid s2
  have RB2 := Lib.hid t2
  have na2 := hga.2.2.1.1
  have NGa2 := Lib.hid hga.2.2.1.2
  have nb2 := hgb.2.2.1.1
  have NGb2 := Lib.hid hgb.2.2.1.2
  have RA3 := Lib.hid s3
  have RB3 := Lib.hid t3
  have na3 := hga.2.2.2.1.1
  have NGa3 := Lib.hid hga.2.2.2.1.2
  have nb3 := hgb.2.2.2.1.1
  have NGb3 := Lib.hid hgb.2.2.2.1.2
  have RA5 := Lib.hid s5
  have RB5 := Lib.hid t5
  have na5 := hga.2.2.2.2.2.1.1
  have NGa5 := Lib.hid hga.2.2.2.2.2.1.2
  have nb5 := hgb.2.2.2.2.2.1.1
  have NGb5 := Lib.hid hgb.2.2.2.2.2.1.2
  have RA6 := Lib.hid s6
  have RB6 := Lib.hid t6
  have na6 := hga.2.2.2.2.2.2.1
  have NGa6 := Lib.hid hga.2.2.2.2.2.2.2
  have nb6 := hgb.2.2.2.2.2.2.1
  have NGb6 := Lib.hid hgb.2.2.2.2.2.2.2
  clear ha hb hga hgb s2 t2 s3 t3 s5 t5 s6 t6
  have k1 := (Below.refl w.heap.size w).alloc (Nat.le_refl _) (.cells #[.int .i64 a.stack, .int .i64 a.locals, .slice A0 a.ops.length c0, .slice A1 a.handlers.length c1, .int .i64 a.has, .slice A2 a.lines.length c2, .slice A3 a.slots.length c3] 29)
  have k2 := (Below.refl (w.alloc (.cells #[.int .i64 a.stack, .int .i64 a.locals, .slice A0 a.ops.length c0, .slice A1 a.handlers.length c1, .int .i64 a.has, .slice A2 a.lines.length c2, .slice A3 a.slots.length c3] 29)).heap.size (w.alloc (.cells #[.int .i64 a.stack, .int .i64 a.locals, .slice A0 a.ops.length c0, .slice A1 a.handlers.length c1, .int .i64 a.has, .slice A2 a.lines.length c2, .slice A3 a.slots.length c3] 29))).alloc (Nat.le_refl _) (.cells #[.int .i64 b.stack, .int .i64 b.locals, .slice B0 b.ops.length d0, .slice B1 b.handlers.length d1, .int .i64 b.has, .slice B2 b.lines.length d2, .slice B3 b.slots.length d3] 29)
  have X1 := Lib.hid ((k2.block _ (Array.getElem?_eq_some_iff.1 (heap_alloc_new w (.cells #[.int .i64 a.stack, .int .i64 a.locals, .slice A0 a.ops.length c0, .slice A1 a.handlers.length c1, .int .i64 a.has, .slice A2 a.lines.length c2, .slice A3 a.slots.length c3] 29))).1).trans (heap_alloc_new w (.cells #[.int .i64 a.stack, .int .i64 a.locals, .slice A0 a.ops.length c0, .slice A1 a.handlers.length c1, .int .i64 a.has, .slice A2 a.lines.length c2, .slice A3 a.slots.length c3] 29)))
  have X2 := Lib.hid (heap_alloc_new (w.alloc (.cells #[.int .i64 a.stack, .int .i64 a.locals, .slice A0 a.ops.length c0, .slice A1 a.handlers.length c1, .int .i64 a.has, .slice A2 a.lines.length c2, .slice A3 a.slots.length c3] 29)) (.cells #[.int .i64 b.stack, .int .i64 b.locals, .slice B0 b.ops.length d0, .slice B1 b.handlers.length d1, .int .i64 b.has, .slice B2 b.lines.length d2, .slice B3 b.slots.length d3] 29))
  have K := Lib.hid (k1.trans (k2.mono k1.size))
  have hs1 : (w.alloc (.cells #[.int .i64 a.stack, .int .i64 a.locals, .slice A0 a.ops.length c0, .slice A1 a.handlers.length c1, .int .i64 a.has, .slice A2 a.lines.length c2, .slice A3 a.slots.length c3] 29)).heap.size = w.heap.size + 1 := by show (w.heap.push _).size = _; simp
  rw [hs1] at X2
  clear k1 k2 hs1
  go_enter Tryz.func46, Tryz.ntmps46
  go_upto_region 1 with fail
  generalize (w.alloc (.cells #[.int .i64 a.stack, .int .i64 a.locals, .slice A0 a.ops.length c0, .slice A1 a.handlers.length c1, .int .i64 a.has, .slice A2 a.lines.length c2, .slice A3 a.slots.length c3] 29)).alloc (.cells #[.int .i64 b.stack, .int .i64 b.locals, .slice B0 b.ops.length d0, .slice B1 b.handlers.length d1, .int .i64 b.has, .slice B2 b.lines.length d2, .slice B3 b.slots.length d3] 29) = W at X1 X2 K ⊢
  have fa0_0 : W.cell? ⟨w.heap.size, 0, none⟩ = some (.int .i64 a.stack) := by rw [Lib.cell_of_heap X1.out]; rfl
  have fb0_0 : W.cell? ⟨w.heap.size + 1, 0, none⟩ = some (.int .i64 b.stack) := by rw [Lib.cell_of_heap X2.out]; rfl
  have fa1_0 : W.cell? ⟨w.heap.size, 1, none⟩ = some (.int .i64 a.locals) := by rw [Lib.cell_of_heap X1.out]; rfl
  have fb1_0 : W.cell? ⟨w.heap.size + 1, 1, none⟩ = some (.int .i64 b.locals) := by rw [Lib.cell_of_heap X2.out]; rfl
  have fa4_0 : W.cell? ⟨w.heap.size, 4, none⟩ = some (.int .i64 a.has) := by rw [Lib.cell_of_heap X1.out]; rfl
  have fb4_0 : W.cell? ⟨w.heap.size + 1, 4, none⟩ = some (.int .i64 b.has) := by rw [Lib.cell_of_heap X2.out]; rfl
  have fa2_0 : W.cell? ⟨w.heap.size, 2, none⟩ = some (.slice A0 a.ops.length c0) := by rw [Lib.cell_of_heap X1.out]; rfl
  have fb2_0 : W.cell? ⟨w.heap.size + 1, 2, none⟩ = some (.slice B0 b.ops.length d0) := by rw [Lib.cell_of_heap X2.out]; rfl
  have fz1_0 := (Array.getElem?_eq_some_iff.1 X1.out).1
  have fz2_0 := (Array.getElem?_eq_some_iff.1 X2.out).1
  by_cases q0 : a.stack = b.stack
  rotate_left
  · have e0 : (a.stack == b.stack) = false := by simp [q0]
    have HN := Lib.hid q0
    clear q0
    go_wp2_with fail
    go_ret
    exact ⟨tells_no (fun e => HN.out (by rw [e])), K.out⟩
  have e0 : (a.stack == b.stack) = true := by simp [q0]
  have Q0 := Lib.hid q0
  clear q0
  by_cases q1 : a.locals = b.locals
  rotate_left
  · have e1 : (a.locals == b.locals) = false := by simp [q1]
    have HN := Lib.hid q1
    clear q1
    go_wp2_with fail
    go_ret
    exact ⟨tells_no (fun e => HN.out (by rw [e])), K.out⟩
  have e1 : (a.locals == b.locals) = true := by simp [q1]
  have Q1 := Lib.hid q1
  clear q1
  by_cases q4 : a.has = b.has
  rotate_left
  · have e4 : (a.has == b.has) = false := by simp [q4]
    have HN := Lib.hid q4
    clear q4
    go_wp2_with fail
    go_ret
    exact ⟨tells_no (fun e => HN.out (by rw [e])), K.out⟩
  have e4 : (a.has == b.has) = true := by simp [q4]
  have Q4 := Lib.hid q4
  clear q4
  have C1 := Lib.hid (efi_any A0 B0 c0 d0 a.ops b.ops W (RA2.out.grow K.out (fun _ _ h => Cins.rd_grow h K.out)) (RB2.out.grow K.out (fun _ _ h => Cins.rd_grow h K.out)) na2 nb2 NGa2.out NGb2.out)
  go_wp2_with fail
  refine C1.out.mono ?_
  rintro e w1 ⟨⟨t1, rfl, ht1⟩, hb1⟩
  have K1 := Lib.hid (K.out.trans (hb1.mono K.out.size))
  have X1_1 := Lib.hid ((hb1.block _ fz1_0).trans X1.out)
  have X2_1 := Lib.hid ((hb1.block _ fz2_0).trans X2.out)
  clear hb1 C1 fa0_0 fb0_0 fa1_0 fb1_0 fa4_0 fb4_0 fa2_0 fb2_0 fz1_0 fz2_0 e0 e1 e4 K X1 X2
  cases t1 with
  | false =>
    have HN := Lib.hid (show ¬ a.ops = b.ops from fun e => by cases ht1.2 e)
    clear ht1
    go_wp2_with fail
    go_ret
    exact ⟨tells_no (fun e => HN.out (by rw [e])), K1.out⟩
  | true =>
    have QC1 := Lib.hid (ht1.1 rfl)
    clear ht1
    have fa3_1 : w1.cell? ⟨w.heap.size, 3, none⟩ = some (.slice A1 a.handlers.length c1) := by rw [Lib.cell_of_heap X1_1.out]; rfl
    have fb3_1 : w1.cell? ⟨w.heap.size + 1, 3, none⟩ = some (.slice B1 b.handlers.length d1) := by rw [Lib.cell_of_heap X2_1.out]; rfl
    have fz1_1 := (Array.getElem?_eq_some_iff.1 X1_1.out).1
    have fz2_1 := (Array.getElem?_eq_some_iff.1 X2_1.out).1
    have C2 := Lib.hid (eqh_any A1 B1 c1 d1 a.handlers b.handlers w1 (RA3.out.grow K1.out (fun _ _ h => Hnd.rd_grow h K1.out)) (RB3.out.grow K1.out (fun _ _ h => Hnd.rd_grow h K1.out)) na3 nb3)
    go_wp2_with fail
    refine C2.out.mono ?_
    rintro e w2 ⟨⟨t2, rfl, ht2⟩, hb2⟩
    have K2 := Lib.hid (K1.out.trans (hb2.mono K1.out.size))
    have X1_2 := Lib.hid ((hb2.block _ fz1_1).trans X1_1.out)
    have X2_2 := Lib.hid ((hb2.block _ fz2_1).trans X2_1.out)
    clear hb2 C2 fa3_1 fb3_1 fz1_1 fz2_1 K1 X1_1 X2_1
    cases t2 with
    | false =>
      have HN := Lib.hid (show ¬ a.handlers = b.handlers from fun e => by cases ht2.2 e)
      clear ht2
      go_wp2_with fail
      go_ret
      exact ⟨tells_no (fun e => HN.out (by rw [e])), K2.out⟩
    | true =>
      have QC2 := Lib.hid (ht2.1 rfl)
      clear ht2
      have fa5_2 : w2.cell? ⟨w.heap.size, 5, none⟩ = some (.slice A2 a.lines.length c2) := by rw [Lib.cell_of_heap X1_2.out]; rfl
      have fb5_2 : w2.cell? ⟨w.heap.size + 1, 5, none⟩ = some (.slice B2 b.lines.length d2) := by rw [Lib.cell_of_heap X2_2.out]; rfl
      have fz1_2 := (Array.getElem?_eq_some_iff.1 X1_2.out).1
      have fz2_2 := (Array.getElem?_eq_some_iff.1 X2_2.out).1
      have C3 := Lib.hid (eql_any A2 B2 c2 d2 a.lines b.lines w2 (RA5.out.grow K2.out (fun _ _ h => Lno.rd_grow h K2.out)) (RB5.out.grow K2.out (fun _ _ h => Lno.rd_grow h K2.out)) na5 nb5)
      go_wp2_with fail
      refine C3.out.mono ?_
      rintro e w3 ⟨⟨t3, rfl, ht3⟩, hb3⟩
      have K3 := Lib.hid (K2.out.trans (hb3.mono K2.out.size))
      have X1_3 := Lib.hid ((hb3.block _ fz1_2).trans X1_2.out)
      have X2_3 := Lib.hid ((hb3.block _ fz2_2).trans X2_2.out)
      clear hb3 C3 fa5_2 fb5_2 fz1_2 fz2_2 K2 X1_2 X2_2
      cases t3 with
      | false =>
        have HN := Lib.hid (show ¬ a.lines = b.lines from fun e => by cases ht3.2 e)
        clear ht3
        go_wp2_with fail
        go_ret
        exact ⟨tells_no (fun e => HN.out (by rw [e])), K3.out⟩
      | true =>
        have QC3 := Lib.hid (ht3.1 rfl)
        clear ht3
        have fa6_3 : w3.cell? ⟨w.heap.size, 6, none⟩ = some (.slice A3 a.slots.length c3) := by rw [Lib.cell_of_heap X1_3.out]; rfl
        have fb6_3 : w3.cell? ⟨w.heap.size + 1, 6, none⟩ = some (.slice B3 b.slots.length d3) := by rw [Lib.cell_of_heap X2_3.out]; rfl
        have fz1_3 := (Array.getElem?_eq_some_iff.1 X1_3.out).1
        have fz2_3 := (Array.getElem?_eq_some_iff.1 X2_3.out).1
        have C4 := Lib.hid (eqt_any A3 B3 c3 d3 a.slots b.slots w3 (RA6.out.grow K3.out (fun _ _ h => Slt.rd_grow h K3.out)) (RB6.out.grow K3.out (fun _ _ h => Slt.rd_grow h K3.out)) na6 nb6)
        go_wp2_with fail
        refine C4.out.mono ?_
        rintro e w4 ⟨⟨t4, rfl, ht4⟩, hb4⟩
        have K4 := Lib.hid (K3.out.trans (hb4.mono K3.out.size))
        have X1_4 := Lib.hid ((hb4.block _ fz1_3).trans X1_3.out)
        have X2_4 := Lib.hid ((hb4.block _ fz2_3).trans X2_3.out)
        clear hb4 C4 fa6_3 fb6_3 fz1_3 fz2_3 K3 X1_3 X2_3
        cases t4 with
        | false =>
          have HN := Lib.hid (show ¬ a.slots = b.slots from fun e => by cases ht4.2 e)
          clear ht4
          go_wp2_with fail
          go_ret
          exact ⟨tells_no (fun e => HN.out (by rw [e])), K4.out⟩
        | true =>
          have QC4 := Lib.hid (ht4.1 rfl)
          clear ht4
          have fz1_4 := (Array.getElem?_eq_some_iff.1 X1_4.out).1
          have fz2_4 := (Array.getElem?_eq_some_iff.1 X2_4.out).1
          have HE := Lib.hid (show a = b by have g0 := Q0.out; have g1 := Q1.out; have g2 := Q4.out; have g3 := QC1.out; have g4 := QC2.out; have g5 := QC3.out; have g6 := QC4.out; cases a; cases b; simp_all)
          go_wp2_with fail
          go_ret
          exact ⟨tells_yes HE.out, K4.out⟩
set_option maxHeartbeats 8000000 in
set_option maxRecDepth 100000 in
theorem sameAttrs_any (w : World) (a b : Atr) (ca cb : List Value) (ha : Atr.rd w ca a) (hb : Atr.rd w cb b) (hga : a.good) (hgb : b.good) :
    Calls Tryz.prog 15 #[.agg ca.toArray, .agg cb.toArray] w fun e w' => TellsB (a = b) e ∧ Below w.heap.size w w' := by
  have HSa1 := Lib.hid (fun w' (k : Below w.heap.size w w') => Cde.rd_grow (show Cde.rd w ((ca.drop 1).take 7) a.code from ha.2.2.1) k)
  have HGa1 := Lib.hid (show Cde.good a.code from hga.2.1)
  have HSb1 := Lib.hid (fun w' (k : Below w.heap.size w w') => Cde.rd_grow (show Cde.rd w ((cb.drop 1).take 7) b.code from hb.2.2.1) k)
  have HGb1 := Lib.hid (show Cde.good b.code from hgb.2.1)
  obtain ⟨A0, c0, A1, c1, A2, c2, A3, c3, A4, c4, A5, c5, rfl, _, _, _, _, ⟨s14, _⟩, ⟨s15, _⟩⟩ := Atr.leafs ha
  obtain ⟨B0, d0, B1, d1, B2, d2, B3, d3, B4, d4, B5, d5, rfl, _, _, _, _, ⟨t14, _⟩, ⟨t15, _⟩⟩ := Atr.leafs hb
  have RA14 := Lib.hid s14
  have RB14 := Lib.hid t14
  have na14 := hga.2.2.2.1.1
  have nb14 := hgb.2.2.2.1.1
  have RA15 := Lib.hid s15
  have RB15 := Lib.hid t15
  have na15 := hga.2.2.2.2.1.1
  have NGa15 := Lib.hid hga.2.2.2.2.1.2
  have nb15 := hgb.2.2.2.2.1.1
  have NGb15 := Lib.hid hgb.2.2.2.2.1.2
  have HEQ := Lib.hid (fun q => eq_val a.value b.value q)
  have hcl1 : (Tryz.prog.info? 29).map (·.size) = some 7 := by kernel_rfl
  clear ha hb hga hgb s14 t14 s15 t15
  have k1 := (Below.refl w.heap.size w).alloc (Nat.le_refl _) (.cells #[.int .i64 a.has, .int .i64 a.code.stack, .int .i64 a.code.locals, .slice A0 a.code.ops.length c0, .slice A1 a.code.handlers.length c1, .int .i64 a.code.has, .slice A2 a.code.lines.length c2, .slice A3 a.code.slots.length c3, .int .i64 a.value.tag, .string (bs a.value.text), .int .u64 a.value.bits, .string (bs a.value.cls), .string (bs a.value.name), .string (bs a.value.desc), .slice A4 a.throws.length c4, .slice A5 a.inners.length c5, .string (bs a.signature), .string (bs a.source)] 35)
  have k2 := (Below.refl (w.alloc (.cells #[.int .i64 a.has, .int .i64 a.code.stack, .int .i64 a.code.locals, .slice A0 a.code.ops.length c0, .slice A1 a.code.handlers.length c1, .int .i64 a.code.has, .slice A2 a.code.lines.length c2, .slice A3 a.code.slots.length c3, .int .i64 a.value.tag, .string (bs a.value.text), .int .u64 a.value.bits, .string (bs a.value.cls), .string (bs a.value.name), .string (bs a.value.desc), .slice A4 a.throws.length c4, .slice A5 a.inners.length c5, .string (bs a.signature), .string (bs a.source)] 35)).heap.size (w.alloc (.cells #[.int .i64 a.has, .int .i64 a.code.stack, .int .i64 a.code.locals, .slice A0 a.code.ops.length c0, .slice A1 a.code.handlers.length c1, .int .i64 a.code.has, .slice A2 a.code.lines.length c2, .slice A3 a.code.slots.length c3, .int .i64 a.value.tag, .string (bs a.value.text), .int .u64 a.value.bits, .string (bs a.value.cls), .string (bs a.value.name), .string (bs a.value.desc), .slice A4 a.throws.length c4, .slice A5 a.inners.length c5, .string (bs a.signature), .string (bs a.source)] 35))).alloc (Nat.le_refl _) (.cells #[.int .i64 b.has, .int .i64 b.code.stack, .int .i64 b.code.locals, .slice B0 b.code.ops.length d0, .slice B1 b.code.handlers.length d1, .int .i64 b.code.has, .slice B2 b.code.lines.length d2, .slice B3 b.code.slots.length d3, .int .i64 b.value.tag, .string (bs b.value.text), .int .u64 b.value.bits, .string (bs b.value.cls), .string (bs b.value.name), .string (bs b.value.desc), .slice B4 b.throws.length d4, .slice B5 b.inners.length d5, .string (bs b.signature), .string (bs b.source)] 35)
  have X1 := Lib.hid ((k2.block _ (Array.getElem?_eq_some_iff.1 (heap_alloc_new w (.cells #[.int .i64 a.has, .int .i64 a.code.stack, .int .i64 a.code.locals, .slice A0 a.code.ops.length c0, .slice A1 a.code.handlers.length c1, .int .i64 a.code.has, .slice A2 a.code.lines.length c2, .slice A3 a.code.slots.length c3, .int .i64 a.value.tag, .string (bs a.value.text), .int .u64 a.value.bits, .string (bs a.value.cls), .string (bs a.value.name), .string (bs a.value.desc), .slice A4 a.throws.length c4, .slice A5 a.inners.length c5, .string (bs a.signature), .string (bs a.source)] 35))).1).trans (heap_alloc_new w (.cells #[.int .i64 a.has, .int .i64 a.code.stack, .int .i64 a.code.locals, .slice A0 a.code.ops.length c0, .slice A1 a.code.handlers.length c1, .int .i64 a.code.has, .slice A2 a.code.lines.length c2, .slice A3 a.code.slots.length c3, .int .i64 a.value.tag, .string (bs a.value.text), .int .u64 a.value.bits, .string (bs a.value.cls), .string (bs a.value.name), .string (bs a.value.desc), .slice A4 a.throws.length c4, .slice A5 a.inners.length c5, .string (bs a.signature), .string (bs a.source)] 35)))
  have X2 := Lib.hid (heap_alloc_new (w.alloc (.cells #[.int .i64 a.has, .int .i64 a.code.stack, .int .i64 a.code.locals, .slice A0 a.code.ops.length c0, .slice A1 a.code.handlers.length c1, .int .i64 a.code.has, .slice A2 a.code.lines.length c2, .slice A3 a.code.slots.length c3, .int .i64 a.value.tag, .string (bs a.value.text), .int .u64 a.value.bits, .string (bs a.value.cls), .string (bs a.value.name), .string (bs a.value.desc), .slice A4 a.throws.length c4, .slice A5 a.inners.length c5, .string (bs a.signature), .string (bs a.source)] 35)) (.cells #[.int .i64 b.has, .int .i64 b.code.stack, .int .i64 b.code.locals, .slice B0 b.code.ops.length d0, .slice B1 b.code.handlers.length d1, .int .i64 b.code.has, .slice B2 b.code.lines.length d2, .slice B3 b.code.slots.length d3, .int .i64 b.value.tag, .string (bs b.value.text), .int .u64 b.value.bits, .string (bs b.value.cls), .string (bs b.value.name), .string (bs b.value.desc), .slice B4 b.throws.length d4, .slice B5 b.inners.length d5, .string (bs b.signature), .string (bs b.source)] 35))
  have K := Lib.hid (k1.trans (k2.mono k1.size))
  have hs1 : (w.alloc (.cells #[.int .i64 a.has, .int .i64 a.code.stack, .int .i64 a.code.locals, .slice A0 a.code.ops.length c0, .slice A1 a.code.handlers.length c1, .int .i64 a.code.has, .slice A2 a.code.lines.length c2, .slice A3 a.code.slots.length c3, .int .i64 a.value.tag, .string (bs a.value.text), .int .u64 a.value.bits, .string (bs a.value.cls), .string (bs a.value.name), .string (bs a.value.desc), .slice A4 a.throws.length c4, .slice A5 a.inners.length c5, .string (bs a.signature), .string (bs a.source)] 35)).heap.size = w.heap.size + 1 := by show (w.heap.push _).size = _; simp
  rw [hs1] at X2
  clear k1 k2 hs1
  go_enter Tryz.func15, Tryz.ntmps15
  go_upto_region 1 with fail
  generalize (w.alloc (.cells #[.int .i64 a.has, .int .i64 a.code.stack, .int .i64 a.code.locals, .slice A0 a.code.ops.length c0, .slice A1 a.code.handlers.length c1, .int .i64 a.code.has, .slice A2 a.code.lines.length c2, .slice A3 a.code.slots.length c3, .int .i64 a.value.tag, .string (bs a.value.text), .int .u64 a.value.bits, .string (bs a.value.cls), .string (bs a.value.name), .string (bs a.value.desc), .slice A4 a.throws.length c4, .slice A5 a.inners.length c5, .string (bs a.signature), .string (bs a.source)] 35)).alloc (.cells #[.int .i64 b.has, .int .i64 b.code.stack, .int .i64 b.code.locals, .slice B0 b.code.ops.length d0, .slice B1 b.code.handlers.length d1, .int .i64 b.code.has, .slice B2 b.code.lines.length d2, .slice B3 b.code.slots.length d3, .int .i64 b.value.tag, .string (bs b.value.text), .int .u64 b.value.bits, .string (bs b.value.cls), .string (bs b.value.name), .string (bs b.value.desc), .slice B4 b.throws.length d4, .slice B5 b.inners.length d5, .string (bs b.signature), .string (bs b.source)] 35) = W at X1 X2 K ⊢
  have fa0_0 : W.cell? ⟨w.heap.size, 0, none⟩ = some (.int .i64 a.has) := by rw [Lib.cell_of_heap X1.out]; rfl
  have fb0_0 : W.cell? ⟨w.heap.size + 1, 0, none⟩ = some (.int .i64 b.has) := by rw [Lib.cell_of_heap X2.out]; rfl
  have fz1_0 := (Array.getElem?_eq_some_iff.1 X1.out).1
  have fz2_0 := (Array.getElem?_eq_some_iff.1 X2.out).1
  by_cases q0 : a.has = b.has
  rotate_left
  · have e0 : (a.has == b.has) = false := by simp [q0]
    have HN := Lib.hid q0
    clear q0
    go_wp2_with fail
    go_ret
    exact ⟨tells_no (fun e => HN.out (by rw [e])), K.out⟩
  have e0 : (a.has == b.has) = true := by simp [q0]
  have Q0 := Lib.hid q0
  clear q0
  have C1 := Lib.hid (sameCode_any W a.code b.code [.int .i64 a.code.stack, .int .i64 a.code.locals, .slice A0 a.code.ops.length c0, .slice A1 a.code.handlers.length c1, .int .i64 a.code.has, .slice A2 a.code.lines.length c2, .slice A3 a.code.slots.length c3] [.int .i64 b.code.stack, .int .i64 b.code.locals, .slice B0 b.code.ops.length d0, .slice B1 b.code.handlers.length d1, .int .i64 b.code.has, .slice B2 b.code.lines.length d2, .slice B3 b.code.slots.length d3] (HSa1.out W K.out) (HSb1.out W K.out) HGa1.out HGb1.out)
  have HLA := Lib.hid (show CellsAt W w.heap.size 1 [.int .i64 a.code.stack, .int .i64 a.code.locals, .slice A0 a.code.ops.length c0, .slice A1 a.code.handlers.length c1, .int .i64 a.code.has, .slice A2 a.code.lines.length c2, .slice A3 a.code.slots.length c3] from cellsAt_block X1.out 1 7)
  have HLB := Lib.hid (show CellsAt W (w.heap.size + 1) 1 [.int .i64 b.code.stack, .int .i64 b.code.locals, .slice B0 b.code.ops.length d0, .slice B1 b.code.handlers.length d1, .int .i64 b.code.has, .slice B2 b.code.lines.length d2, .slice B3 b.code.slots.length d3] from cellsAt_block X2.out 1 7)
  go_wp2_with (first | refine wpList_load_cellsW (by rfl) 29 _ rfl w.heap.size 1 rfl _ HLA.out _ Tryz.underlying29 rfl hcl1 ?_ | refine wpList_load_cellsW (by rfl) 29 _ rfl (w.heap.size + 1) 1 rfl _ HLB.out _ Tryz.underlying29 rfl hcl1 ?_)
  refine C1.out.mono ?_
  rintro e w1 ⟨⟨t1, rfl, ht1⟩, hb1⟩
  have K1 := Lib.hid (K.out.trans (hb1.mono K.out.size))
  have X1_1 := Lib.hid ((hb1.block _ fz1_0).trans X1.out)
  have X2_1 := Lib.hid ((hb1.block _ fz2_0).trans X2.out)
  clear hb1 C1 fa0_0 fb0_0 fz1_0 fz2_0 e0 HLA HLB K X1 X2
  cases t1 with
  | false =>
    have HN := Lib.hid (show ¬ a.code = b.code from fun e => by cases ht1.2 e)
    clear ht1
    go_wp2_with fail
    go_ret
    exact ⟨tells_no (fun e => HN.out (by rw [e])), K1.out⟩
  | true =>
    have QC1 := Lib.hid (ht1.1 rfl)
    clear ht1
    have fa8_1 : w1.cell? ⟨w.heap.size, 8, none⟩ = some (.int .i64 a.value.tag) := by rw [Lib.cell_of_heap X1_1.out]; rfl
    have fb8_1 : w1.cell? ⟨w.heap.size + 1, 8, none⟩ = some (.int .i64 b.value.tag) := by rw [Lib.cell_of_heap X2_1.out]; rfl
    have fa9_1 : w1.cell? ⟨w.heap.size, 9, none⟩ = some (.string (bs a.value.text)) := by rw [Lib.cell_of_heap X1_1.out]; rfl
    have fb9_1 : w1.cell? ⟨w.heap.size + 1, 9, none⟩ = some (.string (bs b.value.text)) := by rw [Lib.cell_of_heap X2_1.out]; rfl
    have fa10_1 : w1.cell? ⟨w.heap.size, 10, none⟩ = some (.int .u64 a.value.bits) := by rw [Lib.cell_of_heap X1_1.out]; rfl
    have fb10_1 : w1.cell? ⟨w.heap.size + 1, 10, none⟩ = some (.int .u64 b.value.bits) := by rw [Lib.cell_of_heap X2_1.out]; rfl
    have fa11_1 : w1.cell? ⟨w.heap.size, 11, none⟩ = some (.string (bs a.value.cls)) := by rw [Lib.cell_of_heap X1_1.out]; rfl
    have fb11_1 : w1.cell? ⟨w.heap.size + 1, 11, none⟩ = some (.string (bs b.value.cls)) := by rw [Lib.cell_of_heap X2_1.out]; rfl
    have fa12_1 : w1.cell? ⟨w.heap.size, 12, none⟩ = some (.string (bs a.value.name)) := by rw [Lib.cell_of_heap X1_1.out]; rfl
    have fb12_1 : w1.cell? ⟨w.heap.size + 1, 12, none⟩ = some (.string (bs b.value.name)) := by rw [Lib.cell_of_heap X2_1.out]; rfl
    have fa13_1 : w1.cell? ⟨w.heap.size, 13, none⟩ = some (.string (bs a.value.desc)) := by rw [Lib.cell_of_heap X1_1.out]; rfl
    have fb13_1 : w1.cell? ⟨w.heap.size + 1, 13, none⟩ = some (.string (bs b.value.desc)) := by rw [Lib.cell_of_heap X2_1.out]; rfl
    have fa14_1 : w1.cell? ⟨w.heap.size, 14, none⟩ = some (.slice A4 a.throws.length c4) := by rw [Lib.cell_of_heap X1_1.out]; rfl
    have fb14_1 : w1.cell? ⟨w.heap.size + 1, 14, none⟩ = some (.slice B4 b.throws.length d4) := by rw [Lib.cell_of_heap X2_1.out]; rfl
    have fz1_1 := (Array.getElem?_eq_some_iff.1 X1_1.out).1
    have fz2_1 := (Array.getElem?_eq_some_iff.1 X2_1.out).1
    have heq := HEQ.out
    unfold vv at heq
    by_cases hv : a.value = b.value
    rotate_left
    · rw [decide_eq_false hv] at heq
      have HN := Lib.hid hv
      clear hv
      go_wp2_with fail
      go_ret
      exact ⟨tells_no (fun e => HN.out (by rw [e])), K1.out⟩
    rw [decide_eq_true hv] at heq
    have QV := Lib.hid hv
    clear hv
    have C2 := Lib.hid (eqs_any A4 B4 c4 d4 a.throws b.throws w1 (RA14.out.grow K1.out) (RB14.out.grow K1.out) na14 nb14)
    go_wp2_with fail
    refine C2.out.mono ?_
    rintro e w2 ⟨rfl, hb2⟩
    have K2 := Lib.hid (K1.out.trans (hb2.mono K1.out.size))
    have X1_2 := Lib.hid ((hb2.block _ fz1_1).trans X1_1.out)
    have X2_2 := Lib.hid ((hb2.block _ fz2_1).trans X2_1.out)
    clear hb2 C2 fa8_1 fb8_1 fa9_1 fb9_1 fa10_1 fb10_1 fa11_1 fb11_1 fa12_1 fb12_1 fa13_1 fb13_1 fa14_1 fb14_1 fz1_1 fz2_1 heq K1 X1_1 X2_1
    by_cases hk2 : a.throws = b.throws
    rotate_left
    · rw [decide_eq_false hk2]
      have HN := Lib.hid hk2
      clear hk2
      go_wp2_with fail
      go_ret
      exact ⟨tells_no (fun e => HN.out (by rw [e])), K2.out⟩
    rw [decide_eq_true hk2]
    have QC2 := Lib.hid hk2
    clear hk2
    have fa15_2 : w2.cell? ⟨w.heap.size, 15, none⟩ = some (.slice A5 a.inners.length c5) := by rw [Lib.cell_of_heap X1_2.out]; rfl
    have fb15_2 : w2.cell? ⟨w.heap.size + 1, 15, none⟩ = some (.slice B5 b.inners.length d5) := by rw [Lib.cell_of_heap X2_2.out]; rfl
    have fz1_2 := (Array.getElem?_eq_some_iff.1 X1_2.out).1
    have fz2_2 := (Array.getElem?_eq_some_iff.1 X2_2.out).1
    have C3 := Lib.hid (eqn_any A5 B5 c5 d5 a.inners b.inners w2 (RA15.out.grow K2.out (fun _ _ h => Inr.rd_grow h K2.out)) (RB15.out.grow K2.out (fun _ _ h => Inr.rd_grow h K2.out)) na15 nb15)
    go_wp2_with fail
    refine C3.out.mono ?_
    rintro e w3 ⟨⟨t3, rfl, ht3⟩, hb3⟩
    have K3 := Lib.hid (K2.out.trans (hb3.mono K2.out.size))
    have X1_3 := Lib.hid ((hb3.block _ fz1_2).trans X1_2.out)
    have X2_3 := Lib.hid ((hb3.block _ fz2_2).trans X2_2.out)
    clear hb3 C3 fa15_2 fb15_2 fz1_2 fz2_2 K2 X1_2 X2_2
    cases t3 with
    | false =>
      have HN := Lib.hid (show ¬ a.inners = b.inners from fun e => by cases ht3.2 e)
      clear ht3
      go_wp2_with fail
      go_ret
      exact ⟨tells_no (fun e => HN.out (by rw [e])), K3.out⟩
    | true =>
      have QC3 := Lib.hid (ht3.1 rfl)
      clear ht3
      have fa16_3 : w3.cell? ⟨w.heap.size, 16, none⟩ = some (.string (bs a.signature)) := by rw [Lib.cell_of_heap X1_3.out]; rfl
      have fb16_3 : w3.cell? ⟨w.heap.size + 1, 16, none⟩ = some (.string (bs b.signature)) := by rw [Lib.cell_of_heap X2_3.out]; rfl
      have fa17_3 : w3.cell? ⟨w.heap.size, 17, none⟩ = some (.string (bs a.source)) := by rw [Lib.cell_of_heap X1_3.out]; rfl
      have fb17_3 : w3.cell? ⟨w.heap.size + 1, 17, none⟩ = some (.string (bs b.source)) := by rw [Lib.cell_of_heap X2_3.out]; rfl
      have fz1_3 := (Array.getElem?_eq_some_iff.1 X1_3.out).1
      have fz2_3 := (Array.getElem?_eq_some_iff.1 X2_3.out).1
      by_cases q16 : a.signature = b.signature
      rotate_left
      · have e16 : ((bs a.signature).toList == (bs b.signature).toList) = false := by rw [bs_beq]; exact decide_eq_false q16
        have HN := Lib.hid q16
        clear q16
        go_wp2_with fail
        go_ret
        exact ⟨tells_no (fun e => HN.out (by rw [e])), K3.out⟩
      have e16 : ((bs a.signature).toList == (bs b.signature).toList) = true := by rw [bs_beq]; exact decide_eq_true q16
      have Q16 := Lib.hid q16
      clear q16
      by_cases q17 : a.source = b.source
      rotate_left
      · have e17 : ((bs a.source).toList == (bs b.source).toList) = false := by rw [bs_beq]; exact decide_eq_false q17
        have HN := Lib.hid q17
        clear q17
        go_wp2_with fail
        go_ret
        exact ⟨tells_no (fun e => HN.out (by rw [e])), K3.out⟩
      have e17 : ((bs a.source).toList == (bs b.source).toList) = true := by rw [bs_beq]; exact decide_eq_true q17
      have Q17 := Lib.hid q17
      clear q17
      have HE := Lib.hid (show a = b by have g0 := Q0.out; have g1 := QC1.out; have g2 := QV.out; have g3 := QC2.out; have g4 := QC3.out; have g5 := Q16.out; have g6 := Q17.out; cases a; cases b; simp_all)
      go_wp2_with fail
      go_ret
      exact ⟨tells_yes HE.out, K3.out⟩
set_option maxHeartbeats 8000000 in
set_option maxRecDepth 100000 in
theorem sameMember_any (w : World) (a b : Mbr) (ca cb : List Value) (ha : Mbr.rd w ca a) (hb : Mbr.rd w cb b) (hga : a.good) (hgb : b.good) :
    Calls Tryz.prog 14 #[.agg ca.toArray, .agg cb.toArray] w fun e w' => TellsB (a = b) e ∧ Below w.heap.size w w' := by
  have HSa3 := Lib.hid (fun w' (k : Below w.heap.size w w') => Atr.rd_grow (show Atr.rd w ((ca.drop 3).take 18) a.attrs from ha.2.2.2.2) k)
  have HGa3 := Lib.hid (show Atr.good a.attrs from hga.2.2.2)
  have HSb3 := Lib.hid (fun w' (k : Below w.heap.size w w') => Atr.rd_grow (show Atr.rd w ((cb.drop 3).take 18) b.attrs from hb.2.2.2.2) k)
  have HGb3 := Lib.hid (show Atr.good b.attrs from hgb.2.2.2)
  obtain ⟨A0, c0, A1, c1, A2, c2, A3, c3, A4, c4, A5, c5, rfl, _, _, _, _, _, _⟩ := Mbr.leafs ha
  obtain ⟨B0, d0, B1, d1, B2, d2, B3, d3, B4, d4, B5, d5, rfl, _, _, _, _, _, _⟩ := Mbr.leafs hb
  have hcl3 : (Tryz.prog.info? 35).map (·.size) = some 18 := by kernel_rfl
  clear ha hb hga hgb 
  have k1 := (Below.refl w.heap.size w).alloc (Nat.le_refl _) (.cells #[.int .i64 a.flags, .string (bs a.name), .string (bs a.desc), .int .i64 a.attrs.has, .int .i64 a.attrs.code.stack, .int .i64 a.attrs.code.locals, .slice A0 a.attrs.code.ops.length c0, .slice A1 a.attrs.code.handlers.length c1, .int .i64 a.attrs.code.has, .slice A2 a.attrs.code.lines.length c2, .slice A3 a.attrs.code.slots.length c3, .int .i64 a.attrs.value.tag, .string (bs a.attrs.value.text), .int .u64 a.attrs.value.bits, .string (bs a.attrs.value.cls), .string (bs a.attrs.value.name), .string (bs a.attrs.value.desc), .slice A4 a.attrs.throws.length c4, .slice A5 a.attrs.inners.length c5, .string (bs a.attrs.signature), .string (bs a.attrs.source)] 55)
  have k2 := (Below.refl (w.alloc (.cells #[.int .i64 a.flags, .string (bs a.name), .string (bs a.desc), .int .i64 a.attrs.has, .int .i64 a.attrs.code.stack, .int .i64 a.attrs.code.locals, .slice A0 a.attrs.code.ops.length c0, .slice A1 a.attrs.code.handlers.length c1, .int .i64 a.attrs.code.has, .slice A2 a.attrs.code.lines.length c2, .slice A3 a.attrs.code.slots.length c3, .int .i64 a.attrs.value.tag, .string (bs a.attrs.value.text), .int .u64 a.attrs.value.bits, .string (bs a.attrs.value.cls), .string (bs a.attrs.value.name), .string (bs a.attrs.value.desc), .slice A4 a.attrs.throws.length c4, .slice A5 a.attrs.inners.length c5, .string (bs a.attrs.signature), .string (bs a.attrs.source)] 55)).heap.size (w.alloc (.cells #[.int .i64 a.flags, .string (bs a.name), .string (bs a.desc), .int .i64 a.attrs.has, .int .i64 a.attrs.code.stack, .int .i64 a.attrs.code.locals, .slice A0 a.attrs.code.ops.length c0, .slice A1 a.attrs.code.handlers.length c1, .int .i64 a.attrs.code.has, .slice A2 a.attrs.code.lines.length c2, .slice A3 a.attrs.code.slots.length c3, .int .i64 a.attrs.value.tag, .string (bs a.attrs.value.text), .int .u64 a.attrs.value.bits, .string (bs a.attrs.value.cls), .string (bs a.attrs.value.name), .string (bs a.attrs.value.desc), .slice A4 a.attrs.throws.length c4, .slice A5 a.attrs.inners.length c5, .string (bs a.attrs.signature), .string (bs a.attrs.source)] 55))).alloc (Nat.le_refl _) (.cells #[.int .i64 b.flags, .string (bs b.name), .string (bs b.desc), .int .i64 b.attrs.has, .int .i64 b.attrs.code.stack, .int .i64 b.attrs.code.locals, .slice B0 b.attrs.code.ops.length d0, .slice B1 b.attrs.code.handlers.length d1, .int .i64 b.attrs.code.has, .slice B2 b.attrs.code.lines.length d2, .slice B3 b.attrs.code.slots.length d3, .int .i64 b.attrs.value.tag, .string (bs b.attrs.value.text), .int .u64 b.attrs.value.bits, .string (bs b.attrs.value.cls), .string (bs b.attrs.value.name), .string (bs b.attrs.value.desc), .slice B4 b.attrs.throws.length d4, .slice B5 b.attrs.inners.length d5, .string (bs b.attrs.signature), .string (bs b.attrs.source)] 55)
  have X1 := Lib.hid ((k2.block _ (Array.getElem?_eq_some_iff.1 (heap_alloc_new w (.cells #[.int .i64 a.flags, .string (bs a.name), .string (bs a.desc), .int .i64 a.attrs.has, .int .i64 a.attrs.code.stack, .int .i64 a.attrs.code.locals, .slice A0 a.attrs.code.ops.length c0, .slice A1 a.attrs.code.handlers.length c1, .int .i64 a.attrs.code.has, .slice A2 a.attrs.code.lines.length c2, .slice A3 a.attrs.code.slots.length c3, .int .i64 a.attrs.value.tag, .string (bs a.attrs.value.text), .int .u64 a.attrs.value.bits, .string (bs a.attrs.value.cls), .string (bs a.attrs.value.name), .string (bs a.attrs.value.desc), .slice A4 a.attrs.throws.length c4, .slice A5 a.attrs.inners.length c5, .string (bs a.attrs.signature), .string (bs a.attrs.source)] 55))).1).trans (heap_alloc_new w (.cells #[.int .i64 a.flags, .string (bs a.name), .string (bs a.desc), .int .i64 a.attrs.has, .int .i64 a.attrs.code.stack, .int .i64 a.attrs.code.locals, .slice A0 a.attrs.code.ops.length c0, .slice A1 a.attrs.code.handlers.length c1, .int .i64 a.attrs.code.has, .slice A2 a.attrs.code.lines.length c2, .slice A3 a.attrs.code.slots.length c3, .int .i64 a.attrs.value.tag, .string (bs a.attrs.value.text), .int .u64 a.attrs.value.bits, .string (bs a.attrs.value.cls), .string (bs a.attrs.value.name), .string (bs a.attrs.value.desc), .slice A4 a.attrs.throws.length c4, .slice A5 a.attrs.inners.length c5, .string (bs a.attrs.signature), .string (bs a.attrs.source)] 55)))
  have X2 := Lib.hid (heap_alloc_new (w.alloc (.cells #[.int .i64 a.flags, .string (bs a.name), .string (bs a.desc), .int .i64 a.attrs.has, .int .i64 a.attrs.code.stack, .int .i64 a.attrs.code.locals, .slice A0 a.attrs.code.ops.length c0, .slice A1 a.attrs.code.handlers.length c1, .int .i64 a.attrs.code.has, .slice A2 a.attrs.code.lines.length c2, .slice A3 a.attrs.code.slots.length c3, .int .i64 a.attrs.value.tag, .string (bs a.attrs.value.text), .int .u64 a.attrs.value.bits, .string (bs a.attrs.value.cls), .string (bs a.attrs.value.name), .string (bs a.attrs.value.desc), .slice A4 a.attrs.throws.length c4, .slice A5 a.attrs.inners.length c5, .string (bs a.attrs.signature), .string (bs a.attrs.source)] 55)) (.cells #[.int .i64 b.flags, .string (bs b.name), .string (bs b.desc), .int .i64 b.attrs.has, .int .i64 b.attrs.code.stack, .int .i64 b.attrs.code.locals, .slice B0 b.attrs.code.ops.length d0, .slice B1 b.attrs.code.handlers.length d1, .int .i64 b.attrs.code.has, .slice B2 b.attrs.code.lines.length d2, .slice B3 b.attrs.code.slots.length d3, .int .i64 b.attrs.value.tag, .string (bs b.attrs.value.text), .int .u64 b.attrs.value.bits, .string (bs b.attrs.value.cls), .string (bs b.attrs.value.name), .string (bs b.attrs.value.desc), .slice B4 b.attrs.throws.length d4, .slice B5 b.attrs.inners.length d5, .string (bs b.attrs.signature), .string (bs b.attrs.source)] 55))
  have K := Lib.hid (k1.trans (k2.mono k1.size))
  have hs1 : (w.alloc (.cells #[.int .i64 a.flags, .string (bs a.name), .string (bs a.desc), .int .i64 a.attrs.has, .int .i64 a.attrs.code.stack, .int .i64 a.attrs.code.locals, .slice A0 a.attrs.code.ops.length c0, .slice A1 a.attrs.code.handlers.length c1, .int .i64 a.attrs.code.has, .slice A2 a.attrs.code.lines.length c2, .slice A3 a.attrs.code.slots.length c3, .int .i64 a.attrs.value.tag, .string (bs a.attrs.value.text), .int .u64 a.attrs.value.bits, .string (bs a.attrs.value.cls), .string (bs a.attrs.value.name), .string (bs a.attrs.value.desc), .slice A4 a.attrs.throws.length c4, .slice A5 a.attrs.inners.length c5, .string (bs a.attrs.signature), .string (bs a.attrs.source)] 55)).heap.size = w.heap.size + 1 := by show (w.heap.push _).size = _; simp
  rw [hs1] at X2
  clear k1 k2 hs1
  go_enter Tryz.func14, Tryz.ntmps14
  go_upto_region 1 with fail
  generalize (w.alloc (.cells #[.int .i64 a.flags, .string (bs a.name), .string (bs a.desc), .int .i64 a.attrs.has, .int .i64 a.attrs.code.stack, .int .i64 a.attrs.code.locals, .slice A0 a.attrs.code.ops.length c0, .slice A1 a.attrs.code.handlers.length c1, .int .i64 a.attrs.code.has, .slice A2 a.attrs.code.lines.length c2, .slice A3 a.attrs.code.slots.length c3, .int .i64 a.attrs.value.tag, .string (bs a.attrs.value.text), .int .u64 a.attrs.value.bits, .string (bs a.attrs.value.cls), .string (bs a.attrs.value.name), .string (bs a.attrs.value.desc), .slice A4 a.attrs.throws.length c4, .slice A5 a.attrs.inners.length c5, .string (bs a.attrs.signature), .string (bs a.attrs.source)] 55)).alloc (.cells #[.int .i64 b.flags, .string (bs b.name), .string (bs b.desc), .int .i64 b.attrs.has, .int .i64 b.attrs.code.stack, .int .i64 b.attrs.code.locals, .slice B0 b.attrs.code.ops.length d0, .slice B1 b.attrs.code.handlers.length d1, .int .i64 b.attrs.code.has, .slice B2 b.attrs.code.lines.length d2, .slice B3 b.attrs.code.slots.length d3, .int .i64 b.attrs.value.tag, .string (bs b.attrs.value.text), .int .u64 b.attrs.value.bits, .string (bs b.attrs.value.cls), .string (bs b.attrs.value.name), .string (bs b.attrs.value.desc), .slice B4 b.attrs.throws.length d4, .slice B5 b.attrs.inners.length d5, .string (bs b.attrs.signature), .string (bs b.attrs.source)] 55) = W at X1 X2 K ⊢
  have fa0_0 : W.cell? ⟨w.heap.size, 0, none⟩ = some (.int .i64 a.flags) := by rw [Lib.cell_of_heap X1.out]; rfl
  have fb0_0 : W.cell? ⟨w.heap.size + 1, 0, none⟩ = some (.int .i64 b.flags) := by rw [Lib.cell_of_heap X2.out]; rfl
  have fa1_0 : W.cell? ⟨w.heap.size, 1, none⟩ = some (.string (bs a.name)) := by rw [Lib.cell_of_heap X1.out]; rfl
  have fb1_0 : W.cell? ⟨w.heap.size + 1, 1, none⟩ = some (.string (bs b.name)) := by rw [Lib.cell_of_heap X2.out]; rfl
  have fa2_0 : W.cell? ⟨w.heap.size, 2, none⟩ = some (.string (bs a.desc)) := by rw [Lib.cell_of_heap X1.out]; rfl
  have fb2_0 : W.cell? ⟨w.heap.size + 1, 2, none⟩ = some (.string (bs b.desc)) := by rw [Lib.cell_of_heap X2.out]; rfl
  have fz1_0 := (Array.getElem?_eq_some_iff.1 X1.out).1
  have fz2_0 := (Array.getElem?_eq_some_iff.1 X2.out).1
  by_cases q0 : a.flags = b.flags
  rotate_left
  · have e0 : (a.flags == b.flags) = false := by simp [q0]
    have HN := Lib.hid q0
    clear q0
    go_wp2_with fail
    go_ret
    exact ⟨tells_no (fun e => HN.out (by rw [e])), K.out⟩
  have e0 : (a.flags == b.flags) = true := by simp [q0]
  have Q0 := Lib.hid q0
  clear q0
  by_cases q1 : a.name = b.name
  rotate_left
  · have e1 : ((bs a.name).toList == (bs b.name).toList) = false := by rw [bs_beq]; exact decide_eq_false q1
    have HN := Lib.hid q1
    clear q1
    go_wp2_with fail
    go_ret
    exact ⟨tells_no (fun e => HN.out (by rw [e])), K.out⟩
  have e1 : ((bs a.name).toList == (bs b.name).toList) = true := by rw [bs_beq]; exact decide_eq_true q1
  have Q1 := Lib.hid q1
  clear q1
  by_cases q2 : a.desc = b.desc
  rotate_left
  · have e2 : ((bs a.desc).toList == (bs b.desc).toList) = false := by rw [bs_beq]; exact decide_eq_false q2
    have HN := Lib.hid q2
    clear q2
    go_wp2_with fail
    go_ret
    exact ⟨tells_no (fun e => HN.out (by rw [e])), K.out⟩
  have e2 : ((bs a.desc).toList == (bs b.desc).toList) = true := by rw [bs_beq]; exact decide_eq_true q2
  have Q2 := Lib.hid q2
  clear q2
  have C1 := Lib.hid (sameAttrs_any W a.attrs b.attrs [.int .i64 a.attrs.has, .int .i64 a.attrs.code.stack, .int .i64 a.attrs.code.locals, .slice A0 a.attrs.code.ops.length c0, .slice A1 a.attrs.code.handlers.length c1, .int .i64 a.attrs.code.has, .slice A2 a.attrs.code.lines.length c2, .slice A3 a.attrs.code.slots.length c3, .int .i64 a.attrs.value.tag, .string (bs a.attrs.value.text), .int .u64 a.attrs.value.bits, .string (bs a.attrs.value.cls), .string (bs a.attrs.value.name), .string (bs a.attrs.value.desc), .slice A4 a.attrs.throws.length c4, .slice A5 a.attrs.inners.length c5, .string (bs a.attrs.signature), .string (bs a.attrs.source)] [.int .i64 b.attrs.has, .int .i64 b.attrs.code.stack, .int .i64 b.attrs.code.locals, .slice B0 b.attrs.code.ops.length d0, .slice B1 b.attrs.code.handlers.length d1, .int .i64 b.attrs.code.has, .slice B2 b.attrs.code.lines.length d2, .slice B3 b.attrs.code.slots.length d3, .int .i64 b.attrs.value.tag, .string (bs b.attrs.value.text), .int .u64 b.attrs.value.bits, .string (bs b.attrs.value.cls), .string (bs b.attrs.value.name), .string (bs b.attrs.value.desc), .slice B4 b.attrs.throws.length d4, .slice B5 b.attrs.inners.length d5, .string (bs b.attrs.signature), .string (bs b.attrs.source)] (HSa3.out W K.out) (HSb3.out W K.out) HGa3.out HGb3.out)
  have HLA := Lib.hid (show CellsAt W w.heap.size 3 [.int .i64 a.attrs.has, .int .i64 a.attrs.code.stack, .int .i64 a.attrs.code.locals, .slice A0 a.attrs.code.ops.length c0, .slice A1 a.attrs.code.handlers.length c1, .int .i64 a.attrs.code.has, .slice A2 a.attrs.code.lines.length c2, .slice A3 a.attrs.code.slots.length c3, .int .i64 a.attrs.value.tag, .string (bs a.attrs.value.text), .int .u64 a.attrs.value.bits, .string (bs a.attrs.value.cls), .string (bs a.attrs.value.name), .string (bs a.attrs.value.desc), .slice A4 a.attrs.throws.length c4, .slice A5 a.attrs.inners.length c5, .string (bs a.attrs.signature), .string (bs a.attrs.source)] from cellsAt_block X1.out 3 18)
  have HLB := Lib.hid (show CellsAt W (w.heap.size + 1) 3 [.int .i64 b.attrs.has, .int .i64 b.attrs.code.stack, .int .i64 b.attrs.code.locals, .slice B0 b.attrs.code.ops.length d0, .slice B1 b.attrs.code.handlers.length d1, .int .i64 b.attrs.code.has, .slice B2 b.attrs.code.lines.length d2, .slice B3 b.attrs.code.slots.length d3, .int .i64 b.attrs.value.tag, .string (bs b.attrs.value.text), .int .u64 b.attrs.value.bits, .string (bs b.attrs.value.cls), .string (bs b.attrs.value.name), .string (bs b.attrs.value.desc), .slice B4 b.attrs.throws.length d4, .slice B5 b.attrs.inners.length d5, .string (bs b.attrs.signature), .string (bs b.attrs.source)] from cellsAt_block X2.out 3 18)
  go_wp2_with (first | refine wpList_load_cellsW (by rfl) 35 _ rfl w.heap.size 3 rfl _ HLA.out _ Tryz.underlying35 rfl hcl3 ?_ | refine wpList_load_cellsW (by rfl) 35 _ rfl (w.heap.size + 1) 3 rfl _ HLB.out _ Tryz.underlying35 rfl hcl3 ?_)
  refine C1.out.mono ?_
  rintro e w1 ⟨⟨t1, rfl, ht1⟩, hb1⟩
  have K1 := Lib.hid (K.out.trans (hb1.mono K.out.size))
  have X1_1 := Lib.hid ((hb1.block _ fz1_0).trans X1.out)
  have X2_1 := Lib.hid ((hb1.block _ fz2_0).trans X2.out)
  clear hb1 C1 fa0_0 fb0_0 fa1_0 fb1_0 fa2_0 fb2_0 fz1_0 fz2_0 e0 e1 e2 HLA HLB K X1 X2
  cases t1 with
  | false =>
    have HN := Lib.hid (show ¬ a.attrs = b.attrs from fun e => by cases ht1.2 e)
    clear ht1
    go_wp2_with fail
    go_ret
    exact ⟨tells_no (fun e => HN.out (by rw [e])), K1.out⟩
  | true =>
    have QC1 := Lib.hid (ht1.1 rfl)
    clear ht1
    have fz1_1 := (Array.getElem?_eq_some_iff.1 X1_1.out).1
    have fz2_1 := (Array.getElem?_eq_some_iff.1 X2_1.out).1
    have HE := Lib.hid (show a = b by have g0 := Q0.out; have g1 := Q1.out; have g2 := Q2.out; have g3 := QC1.out; cases a; cases b; simp_all)
    go_wp2_with fail
    go_ret
    exact ⟨tells_yes HE.out, K1.out⟩
end Go.Proofs.YtibogpidnnodnaaGreatDoor

/- slices.EqualFunc of Member by sameMember. Printed by mk_equalf.py. -/
namespace Go.Proofs.YtibogpidnnodnaaGreatDoor
open Go.RowKit Go.Deep

set_option maxHeartbeats 8000000 in
set_option maxRecDepth 100000 in
theorem efm_any (A B : Option Addr) (c d : Nat) (xs ys : List Mbr) (w : World) (ha : Sl 21 Mbr.rd w A c xs) (hb : Sl 21 Mbr.rd w B d ys) (hn : xs.length ≤ 140737488355328) (_hm : ys.length ≤ 140737488355328) (hga : ∀ u ∈ xs, Mbr.good u) (hgb : ∀ u ∈ ys, Mbr.good u) :
    Calls Tryz.prog 13 #[.slice A xs.length c, .slice B ys.length d, .func (.func 14) #[] #[]] w fun e w' => TellsB (xs = ys) e ∧ Below w.heap.size w w' := by
  have HA := Lib.hid ha
  have HB := Lib.hid hb
  have HGA := Lib.hid hga
  have HGB := Lib.hid hgb
  clear ha hb hga hgb
  by_cases hl : xs.length = ys.length
  · have hl2 : ((xs.length : Int) != (ys.length : Int)) = false := by simp [hl]
    go_enter Tryz.func13, Tryz.ntmps13
    go_upto_region 4 with fail
    go_loopw [17] (fun s17 wr => ∃ i : Nat, i ≤ xs.length ∧ s17 = .int .i64 i ∧ xs.take i = ys.take i ∧ Below w.heap.size w wr) (fun s17 _ => xs.length - (intOf s17).toNat)
    case atStart => exact ⟨0, Nat.zero_le _, rfl, rfl, Below.refl _ _⟩
    case round =>
      obtain ⟨i, hil, rfl, he, hK⟩ := hrel
      have K := Lib.hid hK
      have HE := Lib.hid he
      by_cases h1 : i < xs.length
      · as_aux_lemma =>
        obtain ⟨g, o, x, cx, rfl, hg, hx, hrx, hcl, hcx⟩ := HA.out.at_ h1
        obtain ⟨g2, o2, y, cy, rfl, hg2, hy, hry, hdl, hcy⟩ := HB.out.at_ (show i < ys.length by omega)
        have HCX := Lib.hid (hcx.grow hK hg)
        have kA := (Below.refl wr.heap.size wr).alloc (Nat.le_refl _) (.cells cx.toArray 55)
        have HCY := Lib.hid ((hcy.grow hK hg2).grow kA (Nat.lt_of_lt_of_le hg2 hK.size))
        have hci : (Tryz.prog.info? 55).map (·.size) = some cx.length := by rw [hcl]; kernel_rfl
        have hcj : (Tryz.prog.info? 55).map (·.size) = some cy.length := by rw [hdl]; kernel_rfl
        have HO1 := Lib.hid (mbr_one cx x hrx)
        have HO2 := Lib.hid (mbr_one cy y hry)
        have HGX := Lib.hid (HGA.out x (List.mem_of_getElem? hx))
        have HGY := Lib.hid (HGB.out y (List.mem_of_getElem? hy))
        have HRX := Lib.hid (fun w' (k : Below w.heap.size w w') => Mbr.rd_grow hrx k)
        have HRY := Lib.hid (fun w' (k : Below w.heap.size w w') => Mbr.rd_grow hry k)
        have K1 := Lib.hid (hK.trans (kA.mono hK.size))
        have E1 := Lib.hid (heap_alloc_new wr (.cells cx.toArray 55))
        have i1 : ¬ ((i : Int) < 0) := by omega
        have i2 : (i : Int) < (xs.length : Int) := by omega
        have i3 : (i : Int) < (ys.length : Int) := by omega
        have i4 : i < xs.length := h1
        have i5 : i < ys.length := by omega
        have HX := Lib.hid hx
        have HY := Lib.hid hy
        have HCL := Lib.hid hcl
        have HDL := Lib.hid hdl
        clear hK he hl hx hy hcx hcy hrx hry hg hg2 hl2 kA hcl hdl
        go_upto_region 6 with (first | (refine wpList_load_cells rfl 55 _ rfl g (o + i * 21) rfl _ HCX.out _ Tryz.underlying55 rfl hci ?_) | (refine wpList_store_fresh rfl 55 _ _ rfl wr _ cx 55 rfl rfl hci (by rw [HCL.out]; rfl) HO1.out ?_))
        have hs1 : (wr.alloc (.cells cx.toArray 55)).heap.size = wr.heap.size + 1 := by show (wr.heap.push _).size = _; simp
        generalize wr.alloc (.cells cx.toArray 55) = W1 at HCY K1 E1 hs1 ⊢
        have kB := (Below.refl W1.heap.size W1).alloc (Nat.le_refl _) (.cells cy.toArray 55)
        have E2 := Lib.hid (heap_alloc_new W1 (.cells cy.toArray 55))
        have E1b := Lib.hid ((kB.block _ (Array.getElem?_eq_some_iff.1 E1.out).1).trans E1.out)
        have K2 := Lib.hid (K1.out.trans (kB.mono K1.out.size))
        rw [hs1] at E2
        have HS1 := Lib.hid hs1
        clear kB E1 HCX hs1
        go_upto_region 7 with (first | (refine wpList_load_cells rfl 55 _ rfl g2 (o2 + i * 21) rfl _ HCY.out _ Tryz.underlying55 rfl hcj ?_) | (refine wpList_store_fresh rfl 55 _ _ rfl W1 _ cy 55 rfl rfl hcj (by rw [HDL.out]; rfl) HO2.out ?_))
        rw [HS1.out]
        generalize W1.alloc (.cells cy.toArray 55) = W2 at K2 E2 E1b ⊢
        have HL1 := Lib.hid (show CellsAt W2 wr.heap.size 0 cx from by have h := cellsAt_block E1b.out 0 cx.length; rwa [List.drop_zero, List.take_length] at h)
        have HL2 := Lib.hid (show CellsAt W2 (wr.heap.size + 1) 0 cy from by have h := cellsAt_block E2.out 0 cy.length; rwa [List.drop_zero, List.take_length] at h)
        have C := Lib.hid (sameMember_any W2 x y cx cy (HRX.out W2 K2.out) (HRY.out W2 K2.out) HGX.out HGY.out)
        clear HCY E1b E2 K1 HS1
        go_wp2_with (first | (refine wpList_load_cells rfl 55 _ rfl wr.heap.size 0 rfl _ HL1.out _ Tryz.underlying55 rfl hci ?_) | (refine wpList_load_cells rfl 55 _ rfl (wr.heap.size + 1) 0 rfl _ HL2.out _ Tryz.underlying55 rfl hcj ?_))
        refine C.out.mono ?_
        rintro e w3 ⟨⟨t, rfl, ht⟩, hb3⟩
        have K3 := Lib.hid (K2.out.trans (hb3.mono K2.out.size))
        clear hb3 C HL1 HL2 K2
        cases t with
        | true =>
          have HT := Lib.hid (take_same HE.out HX.out (by rw [ht.1 rfl]; exact HY.out))
          clear ht
          go_wp2_with fail
          exact ⟨⟨i + 1, h1, rfl, HT.out, K3.out⟩, next_less h1⟩
        | false =>
          have HN := Lib.hid (not_same HX.out HY.out (fun e => by cases ht.2 e))
          clear ht
          go_wp2_with fail
          go_ret
          exact ⟨tells_no HN.out, K3.out⟩
      · as_aux_lemma =>
        have hie : i = xs.length := by omega
        have hxe : xs = ys := by
          rw [hie, List.take_length, hl, List.take_length] at he
          exact he
        have HN := Lib.hid hxe
        have h1b : ¬ i < ys.length := by omega
        clear hK he hl hl2 HE hxe
        go_wp2_with fail
        go_ret
        exact ⟨tells_yes HN.out, K.out⟩
  · have hl2 : ((xs.length : Int) != (ys.length : Int)) = true := by
      have : ¬ (xs.length : Int) = (ys.length : Int) := by omega
      simp [this]
    have HN := Lib.hid (show xs ≠ ys from fun e => hl (by rw [e]))
    clear hl
    go_enter Tryz.func13, Tryz.ntmps13
    go_wp2_with fail
    go_ret
    exact ⟨tells_no HN.out, Below.refl _ _⟩
end Go.Proofs.YtibogpidnnodnaaGreatDoor

/- The walks of check's Same. Printed by mk_same.py. -/
namespace Go.Proofs.YtibogpidnnodnaaGreatDoor
open Go.RowKit Go.Deep

set_option maxHeartbeats 8000000 in
set_option maxRecDepth 100000 in
theorem Same_any (w : World) (a b : Cls) (ca cb : List Value) (ha : Cls.rd w ca a) (hb : Cls.rd w cb b) (hga : a.good) (hgb : b.good) :
    Calls Tryz.prog 6 #[.agg ca.toArray, .agg cb.toArray] w fun e w' => TellsB (a = b) e ∧ Below w.heap.size w w' := by
  have HSa8 := Lib.hid (fun w' (k : Below w.heap.size w w') => Atr.rd_grow (show Atr.rd w ((ca.drop 8).take 18) a.attrs from ha.2.2.2.2.2.2.2.2.2) k)
  have HGa8 := Lib.hid (show Atr.good a.attrs from hga.2.2.2.2.2.2.2.2)
  have HSb8 := Lib.hid (fun w' (k : Below w.heap.size w w') => Atr.rd_grow (show Atr.rd w ((cb.drop 8).take 18) b.attrs from hb.2.2.2.2.2.2.2.2.2) k)
  have HGb8 := Lib.hid (show Atr.good b.attrs from hgb.2.2.2.2.2.2.2.2)
  obtain ⟨A0, c0, A1, c1, A2, c2, A3, c3, A4, c4, A5, c5, A6, c6, A7, c7, A8, c8, rfl, ⟨s5, _⟩, ⟨s6, _⟩, ⟨s7, _⟩, _, _, _, _, _, _⟩ := Cls.leafs ha
  obtain ⟨B0, d0, B1, d1, B2, d2, B3, d3, B4, d4, B5, d5, B6, d6, B7, d7, B8, d8, rfl, ⟨t5, _⟩, ⟨t6, _⟩, ⟨t7, _⟩, _, _, _, _, _, _⟩ := Cls.leafs hb
  have RA5 := Lib.hid s5
  have RB5 := Lib.hid t5
  have na5 := hga.2.2.2.2.2.1.1
  have nb5 := hgb.2.2.2.2.2.1.1
  have RA6 := Lib.hid s6
  have RB6 := Lib.hid t6
  have na6 := hga.2.2.2.2.2.2.1.1
  have NGa6 := Lib.hid hga.2.2.2.2.2.2.1.2
  have nb6 := hgb.2.2.2.2.2.2.1.1
  have NGb6 := Lib.hid hgb.2.2.2.2.2.2.1.2
  have RA7 := Lib.hid s7
  have RB7 := Lib.hid t7
  have na7 := hga.2.2.2.2.2.2.2.1.1
  have NGa7 := Lib.hid hga.2.2.2.2.2.2.2.1.2
  have nb7 := hgb.2.2.2.2.2.2.2.1.1
  have NGb7 := Lib.hid hgb.2.2.2.2.2.2.2.1.2
  have hcl8 : (Tryz.prog.info? 35).map (·.size) = some 18 := by kernel_rfl
  clear ha hb hga hgb s5 t5 s6 t6 s7 t7
  have k1 := (Below.refl w.heap.size w).alloc (Nat.le_refl _) (.cells #[.int .i64 a.minor, .int .i64 a.major, .int .i64 a.flags, .string (bs a.this), .string (bs a.super), .slice A0 a.faces.length c0, .slice A1 a.fields.length c1, .slice A2 a.methods.length c2, .int .i64 a.attrs.has, .int .i64 a.attrs.code.stack, .int .i64 a.attrs.code.locals, .slice A3 a.attrs.code.ops.length c3, .slice A4 a.attrs.code.handlers.length c4, .int .i64 a.attrs.code.has, .slice A5 a.attrs.code.lines.length c5, .slice A6 a.attrs.code.slots.length c6, .int .i64 a.attrs.value.tag, .string (bs a.attrs.value.text), .int .u64 a.attrs.value.bits, .string (bs a.attrs.value.cls), .string (bs a.attrs.value.name), .string (bs a.attrs.value.desc), .slice A7 a.attrs.throws.length c7, .slice A8 a.attrs.inners.length c8, .string (bs a.attrs.signature), .string (bs a.attrs.source)] 37)
  have k2 := (Below.refl (w.alloc (.cells #[.int .i64 a.minor, .int .i64 a.major, .int .i64 a.flags, .string (bs a.this), .string (bs a.super), .slice A0 a.faces.length c0, .slice A1 a.fields.length c1, .slice A2 a.methods.length c2, .int .i64 a.attrs.has, .int .i64 a.attrs.code.stack, .int .i64 a.attrs.code.locals, .slice A3 a.attrs.code.ops.length c3, .slice A4 a.attrs.code.handlers.length c4, .int .i64 a.attrs.code.has, .slice A5 a.attrs.code.lines.length c5, .slice A6 a.attrs.code.slots.length c6, .int .i64 a.attrs.value.tag, .string (bs a.attrs.value.text), .int .u64 a.attrs.value.bits, .string (bs a.attrs.value.cls), .string (bs a.attrs.value.name), .string (bs a.attrs.value.desc), .slice A7 a.attrs.throws.length c7, .slice A8 a.attrs.inners.length c8, .string (bs a.attrs.signature), .string (bs a.attrs.source)] 37)).heap.size (w.alloc (.cells #[.int .i64 a.minor, .int .i64 a.major, .int .i64 a.flags, .string (bs a.this), .string (bs a.super), .slice A0 a.faces.length c0, .slice A1 a.fields.length c1, .slice A2 a.methods.length c2, .int .i64 a.attrs.has, .int .i64 a.attrs.code.stack, .int .i64 a.attrs.code.locals, .slice A3 a.attrs.code.ops.length c3, .slice A4 a.attrs.code.handlers.length c4, .int .i64 a.attrs.code.has, .slice A5 a.attrs.code.lines.length c5, .slice A6 a.attrs.code.slots.length c6, .int .i64 a.attrs.value.tag, .string (bs a.attrs.value.text), .int .u64 a.attrs.value.bits, .string (bs a.attrs.value.cls), .string (bs a.attrs.value.name), .string (bs a.attrs.value.desc), .slice A7 a.attrs.throws.length c7, .slice A8 a.attrs.inners.length c8, .string (bs a.attrs.signature), .string (bs a.attrs.source)] 37))).alloc (Nat.le_refl _) (.cells #[.int .i64 b.minor, .int .i64 b.major, .int .i64 b.flags, .string (bs b.this), .string (bs b.super), .slice B0 b.faces.length d0, .slice B1 b.fields.length d1, .slice B2 b.methods.length d2, .int .i64 b.attrs.has, .int .i64 b.attrs.code.stack, .int .i64 b.attrs.code.locals, .slice B3 b.attrs.code.ops.length d3, .slice B4 b.attrs.code.handlers.length d4, .int .i64 b.attrs.code.has, .slice B5 b.attrs.code.lines.length d5, .slice B6 b.attrs.code.slots.length d6, .int .i64 b.attrs.value.tag, .string (bs b.attrs.value.text), .int .u64 b.attrs.value.bits, .string (bs b.attrs.value.cls), .string (bs b.attrs.value.name), .string (bs b.attrs.value.desc), .slice B7 b.attrs.throws.length d7, .slice B8 b.attrs.inners.length d8, .string (bs b.attrs.signature), .string (bs b.attrs.source)] 37)
  have X1 := Lib.hid ((k2.block _ (Array.getElem?_eq_some_iff.1 (heap_alloc_new w (.cells #[.int .i64 a.minor, .int .i64 a.major, .int .i64 a.flags, .string (bs a.this), .string (bs a.super), .slice A0 a.faces.length c0, .slice A1 a.fields.length c1, .slice A2 a.methods.length c2, .int .i64 a.attrs.has, .int .i64 a.attrs.code.stack, .int .i64 a.attrs.code.locals, .slice A3 a.attrs.code.ops.length c3, .slice A4 a.attrs.code.handlers.length c4, .int .i64 a.attrs.code.has, .slice A5 a.attrs.code.lines.length c5, .slice A6 a.attrs.code.slots.length c6, .int .i64 a.attrs.value.tag, .string (bs a.attrs.value.text), .int .u64 a.attrs.value.bits, .string (bs a.attrs.value.cls), .string (bs a.attrs.value.name), .string (bs a.attrs.value.desc), .slice A7 a.attrs.throws.length c7, .slice A8 a.attrs.inners.length c8, .string (bs a.attrs.signature), .string (bs a.attrs.source)] 37))).1).trans (heap_alloc_new w (.cells #[.int .i64 a.minor, .int .i64 a.major, .int .i64 a.flags, .string (bs a.this), .string (bs a.super), .slice A0 a.faces.length c0, .slice A1 a.fields.length c1, .slice A2 a.methods.length c2, .int .i64 a.attrs.has, .int .i64 a.attrs.code.stack, .int .i64 a.attrs.code.locals, .slice A3 a.attrs.code.ops.length c3, .slice A4 a.attrs.code.handlers.length c4, .int .i64 a.attrs.code.has, .slice A5 a.attrs.code.lines.length c5, .slice A6 a.attrs.code.slots.length c6, .int .i64 a.attrs.value.tag, .string (bs a.attrs.value.text), .int .u64 a.attrs.value.bits, .string (bs a.attrs.value.cls), .string (bs a.attrs.value.name), .string (bs a.attrs.value.desc), .slice A7 a.attrs.throws.length c7, .slice A8 a.attrs.inners.length c8, .string (bs a.attrs.signature), .string (bs a.attrs.source)] 37)))
  have X2 := Lib.hid (heap_alloc_new (w.alloc (.cells #[.int .i64 a.minor, .int .i64 a.major, .int .i64 a.flags, .string (bs a.this), .string (bs a.super), .slice A0 a.faces.length c0, .slice A1 a.fields.length c1, .slice A2 a.methods.length c2, .int .i64 a.attrs.has, .int .i64 a.attrs.code.stack, .int .i64 a.attrs.code.locals, .slice A3 a.attrs.code.ops.length c3, .slice A4 a.attrs.code.handlers.length c4, .int .i64 a.attrs.code.has, .slice A5 a.attrs.code.lines.length c5, .slice A6 a.attrs.code.slots.length c6, .int .i64 a.attrs.value.tag, .string (bs a.attrs.value.text), .int .u64 a.attrs.value.bits, .string (bs a.attrs.value.cls), .string (bs a.attrs.value.name), .string (bs a.attrs.value.desc), .slice A7 a.attrs.throws.length c7, .slice A8 a.attrs.inners.length c8, .string (bs a.attrs.signature), .string (bs a.attrs.source)] 37)) (.cells #[.int .i64 b.minor, .int .i64 b.major, .int .i64 b.flags, .string (bs b.this), .string (bs b.super), .slice B0 b.faces.length d0, .slice B1 b.fields.length d1, .slice B2 b.methods.length d2, .int .i64 b.attrs.has, .int .i64 b.attrs.code.stack, .int .i64 b.attrs.code.locals, .slice B3 b.attrs.code.ops.length d3, .slice B4 b.attrs.code.handlers.length d4, .int .i64 b.attrs.code.has, .slice B5 b.attrs.code.lines.length d5, .slice B6 b.attrs.code.slots.length d6, .int .i64 b.attrs.value.tag, .string (bs b.attrs.value.text), .int .u64 b.attrs.value.bits, .string (bs b.attrs.value.cls), .string (bs b.attrs.value.name), .string (bs b.attrs.value.desc), .slice B7 b.attrs.throws.length d7, .slice B8 b.attrs.inners.length d8, .string (bs b.attrs.signature), .string (bs b.attrs.source)] 37))
  have K := Lib.hid (k1.trans (k2.mono k1.size))
  have hs1 : (w.alloc (.cells #[.int .i64 a.minor, .int .i64 a.major, .int .i64 a.flags, .string (bs a.this), .string (bs a.super), .slice A0 a.faces.length c0, .slice A1 a.fields.length c1, .slice A2 a.methods.length c2, .int .i64 a.attrs.has, .int .i64 a.attrs.code.stack, .int .i64 a.attrs.code.locals, .slice A3 a.attrs.code.ops.length c3, .slice A4 a.attrs.code.handlers.length c4, .int .i64 a.attrs.code.has, .slice A5 a.attrs.code.lines.length c5, .slice A6 a.attrs.code.slots.length c6, .int .i64 a.attrs.value.tag, .string (bs a.attrs.value.text), .int .u64 a.attrs.value.bits, .string (bs a.attrs.value.cls), .string (bs a.attrs.value.name), .string (bs a.attrs.value.desc), .slice A7 a.attrs.throws.length c7, .slice A8 a.attrs.inners.length c8, .string (bs a.attrs.signature), .string (bs a.attrs.source)] 37)).heap.size = w.heap.size + 1 := by show (w.heap.push _).size = _; simp
  rw [hs1] at X2
  clear k1 k2 hs1
  go_enter Tryz.func6, Tryz.ntmps6
  go_upto_region 1 with fail
  generalize (w.alloc (.cells #[.int .i64 a.minor, .int .i64 a.major, .int .i64 a.flags, .string (bs a.this), .string (bs a.super), .slice A0 a.faces.length c0, .slice A1 a.fields.length c1, .slice A2 a.methods.length c2, .int .i64 a.attrs.has, .int .i64 a.attrs.code.stack, .int .i64 a.attrs.code.locals, .slice A3 a.attrs.code.ops.length c3, .slice A4 a.attrs.code.handlers.length c4, .int .i64 a.attrs.code.has, .slice A5 a.attrs.code.lines.length c5, .slice A6 a.attrs.code.slots.length c6, .int .i64 a.attrs.value.tag, .string (bs a.attrs.value.text), .int .u64 a.attrs.value.bits, .string (bs a.attrs.value.cls), .string (bs a.attrs.value.name), .string (bs a.attrs.value.desc), .slice A7 a.attrs.throws.length c7, .slice A8 a.attrs.inners.length c8, .string (bs a.attrs.signature), .string (bs a.attrs.source)] 37)).alloc (.cells #[.int .i64 b.minor, .int .i64 b.major, .int .i64 b.flags, .string (bs b.this), .string (bs b.super), .slice B0 b.faces.length d0, .slice B1 b.fields.length d1, .slice B2 b.methods.length d2, .int .i64 b.attrs.has, .int .i64 b.attrs.code.stack, .int .i64 b.attrs.code.locals, .slice B3 b.attrs.code.ops.length d3, .slice B4 b.attrs.code.handlers.length d4, .int .i64 b.attrs.code.has, .slice B5 b.attrs.code.lines.length d5, .slice B6 b.attrs.code.slots.length d6, .int .i64 b.attrs.value.tag, .string (bs b.attrs.value.text), .int .u64 b.attrs.value.bits, .string (bs b.attrs.value.cls), .string (bs b.attrs.value.name), .string (bs b.attrs.value.desc), .slice B7 b.attrs.throws.length d7, .slice B8 b.attrs.inners.length d8, .string (bs b.attrs.signature), .string (bs b.attrs.source)] 37) = W at X1 X2 K ⊢
  have fa0_0 : W.cell? ⟨w.heap.size, 0, none⟩ = some (.int .i64 a.minor) := by rw [Lib.cell_of_heap X1.out]; rfl
  have fb0_0 : W.cell? ⟨w.heap.size + 1, 0, none⟩ = some (.int .i64 b.minor) := by rw [Lib.cell_of_heap X2.out]; rfl
  have fa1_0 : W.cell? ⟨w.heap.size, 1, none⟩ = some (.int .i64 a.major) := by rw [Lib.cell_of_heap X1.out]; rfl
  have fb1_0 : W.cell? ⟨w.heap.size + 1, 1, none⟩ = some (.int .i64 b.major) := by rw [Lib.cell_of_heap X2.out]; rfl
  have fa2_0 : W.cell? ⟨w.heap.size, 2, none⟩ = some (.int .i64 a.flags) := by rw [Lib.cell_of_heap X1.out]; rfl
  have fb2_0 : W.cell? ⟨w.heap.size + 1, 2, none⟩ = some (.int .i64 b.flags) := by rw [Lib.cell_of_heap X2.out]; rfl
  have fa3_0 : W.cell? ⟨w.heap.size, 3, none⟩ = some (.string (bs a.this)) := by rw [Lib.cell_of_heap X1.out]; rfl
  have fb3_0 : W.cell? ⟨w.heap.size + 1, 3, none⟩ = some (.string (bs b.this)) := by rw [Lib.cell_of_heap X2.out]; rfl
  have fa4_0 : W.cell? ⟨w.heap.size, 4, none⟩ = some (.string (bs a.super)) := by rw [Lib.cell_of_heap X1.out]; rfl
  have fb4_0 : W.cell? ⟨w.heap.size + 1, 4, none⟩ = some (.string (bs b.super)) := by rw [Lib.cell_of_heap X2.out]; rfl
  have fa5_0 : W.cell? ⟨w.heap.size, 5, none⟩ = some (.slice A0 a.faces.length c0) := by rw [Lib.cell_of_heap X1.out]; rfl
  have fb5_0 : W.cell? ⟨w.heap.size + 1, 5, none⟩ = some (.slice B0 b.faces.length d0) := by rw [Lib.cell_of_heap X2.out]; rfl
  have fz1_0 := (Array.getElem?_eq_some_iff.1 X1.out).1
  have fz2_0 := (Array.getElem?_eq_some_iff.1 X2.out).1
  by_cases q0 : a.minor = b.minor
  rotate_left
  · have e0 : (a.minor == b.minor) = false := by simp [q0]
    have HN := Lib.hid q0
    clear q0
    go_wp2_with fail
    go_ret
    exact ⟨tells_no (fun e => HN.out (by rw [e])), K.out⟩
  have e0 : (a.minor == b.minor) = true := by simp [q0]
  have Q0 := Lib.hid q0
  clear q0
  by_cases q1 : a.major = b.major
  rotate_left
  · have e1 : (a.major == b.major) = false := by simp [q1]
    have HN := Lib.hid q1
    clear q1
    go_wp2_with fail
    go_ret
    exact ⟨tells_no (fun e => HN.out (by rw [e])), K.out⟩
  have e1 : (a.major == b.major) = true := by simp [q1]
  have Q1 := Lib.hid q1
  clear q1
  by_cases q2 : a.flags = b.flags
  rotate_left
  · have e2 : (a.flags == b.flags) = false := by simp [q2]
    have HN := Lib.hid q2
    clear q2
    go_wp2_with fail
    go_ret
    exact ⟨tells_no (fun e => HN.out (by rw [e])), K.out⟩
  have e2 : (a.flags == b.flags) = true := by simp [q2]
  have Q2 := Lib.hid q2
  clear q2
  by_cases q3 : a.this = b.this
  rotate_left
  · have e3 : ((bs a.this).toList == (bs b.this).toList) = false := by rw [bs_beq]; exact decide_eq_false q3
    have HN := Lib.hid q3
    clear q3
    go_wp2_with fail
    go_ret
    exact ⟨tells_no (fun e => HN.out (by rw [e])), K.out⟩
  have e3 : ((bs a.this).toList == (bs b.this).toList) = true := by rw [bs_beq]; exact decide_eq_true q3
  have Q3 := Lib.hid q3
  clear q3
  by_cases q4 : a.super = b.super
  rotate_left
  · have e4 : ((bs a.super).toList == (bs b.super).toList) = false := by rw [bs_beq]; exact decide_eq_false q4
    have HN := Lib.hid q4
    clear q4
    go_wp2_with fail
    go_ret
    exact ⟨tells_no (fun e => HN.out (by rw [e])), K.out⟩
  have e4 : ((bs a.super).toList == (bs b.super).toList) = true := by rw [bs_beq]; exact decide_eq_true q4
  have Q4 := Lib.hid q4
  clear q4
  have C1 := Lib.hid (eqs_any A0 B0 c0 d0 a.faces b.faces W (RA5.out.grow K.out) (RB5.out.grow K.out) na5 nb5)
  go_wp2_with fail
  refine C1.out.mono ?_
  rintro e w1 ⟨rfl, hb1⟩
  have K1 := Lib.hid (K.out.trans (hb1.mono K.out.size))
  have X1_1 := Lib.hid ((hb1.block _ fz1_0).trans X1.out)
  have X2_1 := Lib.hid ((hb1.block _ fz2_0).trans X2.out)
  clear hb1 C1 fa0_0 fb0_0 fa1_0 fb1_0 fa2_0 fb2_0 fa3_0 fb3_0 fa4_0 fb4_0 fa5_0 fb5_0 fz1_0 fz2_0 e0 e1 e2 e3 e4 K X1 X2
  by_cases hk1 : a.faces = b.faces
  rotate_left
  · rw [decide_eq_false hk1]
    have HN := Lib.hid hk1
    clear hk1
    go_wp2_with fail
    go_ret
    exact ⟨tells_no (fun e => HN.out (by rw [e])), K1.out⟩
  rw [decide_eq_true hk1]
  have QC1 := Lib.hid hk1
  clear hk1
  have fa6_1 : w1.cell? ⟨w.heap.size, 6, none⟩ = some (.slice A1 a.fields.length c1) := by rw [Lib.cell_of_heap X1_1.out]; rfl
  have fb6_1 : w1.cell? ⟨w.heap.size + 1, 6, none⟩ = some (.slice B1 b.fields.length d1) := by rw [Lib.cell_of_heap X2_1.out]; rfl
  have fz1_1 := (Array.getElem?_eq_some_iff.1 X1_1.out).1
  have fz2_1 := (Array.getElem?_eq_some_iff.1 X2_1.out).1
  have C2 := Lib.hid (efm_any A1 B1 c1 d1 a.fields b.fields w1 (RA6.out.grow K1.out (fun _ _ h => Mbr.rd_grow h K1.out)) (RB6.out.grow K1.out (fun _ _ h => Mbr.rd_grow h K1.out)) na6 nb6 NGa6.out NGb6.out)
  go_wp2_with fail
  refine C2.out.mono ?_
  rintro e w2 ⟨⟨t2, rfl, ht2⟩, hb2⟩
  have K2 := Lib.hid (K1.out.trans (hb2.mono K1.out.size))
  have X1_2 := Lib.hid ((hb2.block _ fz1_1).trans X1_1.out)
  have X2_2 := Lib.hid ((hb2.block _ fz2_1).trans X2_1.out)
  clear hb2 C2 fa6_1 fb6_1 fz1_1 fz2_1 K1 X1_1 X2_1
  cases t2 with
  | false =>
    have HN := Lib.hid (show ¬ a.fields = b.fields from fun e => by cases ht2.2 e)
    clear ht2
    go_wp2_with fail
    go_ret
    exact ⟨tells_no (fun e => HN.out (by rw [e])), K2.out⟩
  | true =>
    have QC2 := Lib.hid (ht2.1 rfl)
    clear ht2
    have fa7_2 : w2.cell? ⟨w.heap.size, 7, none⟩ = some (.slice A2 a.methods.length c2) := by rw [Lib.cell_of_heap X1_2.out]; rfl
    have fb7_2 : w2.cell? ⟨w.heap.size + 1, 7, none⟩ = some (.slice B2 b.methods.length d2) := by rw [Lib.cell_of_heap X2_2.out]; rfl
    have fz1_2 := (Array.getElem?_eq_some_iff.1 X1_2.out).1
    have fz2_2 := (Array.getElem?_eq_some_iff.1 X2_2.out).1
    have C3 := Lib.hid (efm_any A2 B2 c2 d2 a.methods b.methods w2 (RA7.out.grow K2.out (fun _ _ h => Mbr.rd_grow h K2.out)) (RB7.out.grow K2.out (fun _ _ h => Mbr.rd_grow h K2.out)) na7 nb7 NGa7.out NGb7.out)
    go_wp2_with fail
    refine C3.out.mono ?_
    rintro e w3 ⟨⟨t3, rfl, ht3⟩, hb3⟩
    have K3 := Lib.hid (K2.out.trans (hb3.mono K2.out.size))
    have X1_3 := Lib.hid ((hb3.block _ fz1_2).trans X1_2.out)
    have X2_3 := Lib.hid ((hb3.block _ fz2_2).trans X2_2.out)
    clear hb3 C3 fa7_2 fb7_2 fz1_2 fz2_2 K2 X1_2 X2_2
    cases t3 with
    | false =>
      have HN := Lib.hid (show ¬ a.methods = b.methods from fun e => by cases ht3.2 e)
      clear ht3
      go_wp2_with fail
      go_ret
      exact ⟨tells_no (fun e => HN.out (by rw [e])), K3.out⟩
    | true =>
      have QC3 := Lib.hid (ht3.1 rfl)
      clear ht3
      have fz1_3 := (Array.getElem?_eq_some_iff.1 X1_3.out).1
      have fz2_3 := (Array.getElem?_eq_some_iff.1 X2_3.out).1
      have C4 := Lib.hid (sameAttrs_any w3 a.attrs b.attrs [.int .i64 a.attrs.has, .int .i64 a.attrs.code.stack, .int .i64 a.attrs.code.locals, .slice A3 a.attrs.code.ops.length c3, .slice A4 a.attrs.code.handlers.length c4, .int .i64 a.attrs.code.has, .slice A5 a.attrs.code.lines.length c5, .slice A6 a.attrs.code.slots.length c6, .int .i64 a.attrs.value.tag, .string (bs a.attrs.value.text), .int .u64 a.attrs.value.bits, .string (bs a.attrs.value.cls), .string (bs a.attrs.value.name), .string (bs a.attrs.value.desc), .slice A7 a.attrs.throws.length c7, .slice A8 a.attrs.inners.length c8, .string (bs a.attrs.signature), .string (bs a.attrs.source)] [.int .i64 b.attrs.has, .int .i64 b.attrs.code.stack, .int .i64 b.attrs.code.locals, .slice B3 b.attrs.code.ops.length d3, .slice B4 b.attrs.code.handlers.length d4, .int .i64 b.attrs.code.has, .slice B5 b.attrs.code.lines.length d5, .slice B6 b.attrs.code.slots.length d6, .int .i64 b.attrs.value.tag, .string (bs b.attrs.value.text), .int .u64 b.attrs.value.bits, .string (bs b.attrs.value.cls), .string (bs b.attrs.value.name), .string (bs b.attrs.value.desc), .slice B7 b.attrs.throws.length d7, .slice B8 b.attrs.inners.length d8, .string (bs b.attrs.signature), .string (bs b.attrs.source)] (HSa8.out w3 K3.out) (HSb8.out w3 K3.out) HGa8.out HGb8.out)
      have HLA := Lib.hid (show CellsAt w3 w.heap.size 8 [.int .i64 a.attrs.has, .int .i64 a.attrs.code.stack, .int .i64 a.attrs.code.locals, .slice A3 a.attrs.code.ops.length c3, .slice A4 a.attrs.code.handlers.length c4, .int .i64 a.attrs.code.has, .slice A5 a.attrs.code.lines.length c5, .slice A6 a.attrs.code.slots.length c6, .int .i64 a.attrs.value.tag, .string (bs a.attrs.value.text), .int .u64 a.attrs.value.bits, .string (bs a.attrs.value.cls), .string (bs a.attrs.value.name), .string (bs a.attrs.value.desc), .slice A7 a.attrs.throws.length c7, .slice A8 a.attrs.inners.length c8, .string (bs a.attrs.signature), .string (bs a.attrs.source)] from cellsAt_block X1_3.out 8 18)
      have HLB := Lib.hid (show CellsAt w3 (w.heap.size + 1) 8 [.int .i64 b.attrs.has, .int .i64 b.attrs.code.stack, .int .i64 b.attrs.code.locals, .slice B3 b.attrs.code.ops.length d3, .slice B4 b.attrs.code.handlers.length d4, .int .i64 b.attrs.code.has, .slice B5 b.attrs.code.lines.length d5, .slice B6 b.attrs.code.slots.length d6, .int .i64 b.attrs.value.tag, .string (bs b.attrs.value.text), .int .u64 b.attrs.value.bits, .string (bs b.attrs.value.cls), .string (bs b.attrs.value.name), .string (bs b.attrs.value.desc), .slice B7 b.attrs.throws.length d7, .slice B8 b.attrs.inners.length d8, .string (bs b.attrs.signature), .string (bs b.attrs.source)] from cellsAt_block X2_3.out 8 18)
      go_wp2_with (first | refine wpList_load_cellsW (by rfl) 35 _ rfl w.heap.size 8 rfl _ HLA.out _ Tryz.underlying35 rfl hcl8 ?_ | refine wpList_load_cellsW (by rfl) 35 _ rfl (w.heap.size + 1) 8 rfl _ HLB.out _ Tryz.underlying35 rfl hcl8 ?_)
      refine C4.out.mono ?_
      rintro e w4 ⟨⟨t4, rfl, ht4⟩, hb4⟩
      have K4 := Lib.hid (K3.out.trans (hb4.mono K3.out.size))
      have X1_4 := Lib.hid ((hb4.block _ fz1_3).trans X1_3.out)
      have X2_4 := Lib.hid ((hb4.block _ fz2_3).trans X2_3.out)
      clear hb4 C4 fz1_3 fz2_3 HLA HLB K3 X1_3 X2_3
      cases t4 with
      | false =>
        have HN := Lib.hid (show ¬ a.attrs = b.attrs from fun e => by cases ht4.2 e)
        clear ht4
        go_wp2_with fail
        go_ret
        exact ⟨tells_no (fun e => HN.out (by rw [e])), K4.out⟩
      | true =>
        have QC4 := Lib.hid (ht4.1 rfl)
        clear ht4
        have fz1_4 := (Array.getElem?_eq_some_iff.1 X1_4.out).1
        have fz2_4 := (Array.getElem?_eq_some_iff.1 X2_4.out).1
        have HE := Lib.hid (show a = b by have g0 := Q0.out; have g1 := Q1.out; have g2 := Q2.out; have g3 := Q3.out; have g4 := Q4.out; have g5 := QC1.out; have g6 := QC2.out; have g7 := QC3.out; have g8 := QC4.out; cases a; cases b; simp_all)
        go_wp2_with fail
        go_ret
        exact ⟨tells_yes HE.out, K4.out⟩
end Go.Proofs.YtibogpidnnodnaaGreatDoor

/- The fixed calls of layer 20. Printed by mk_fixed.py. -/
namespace Go.Proofs.YtibogpidnnodnaaGreatDoor
open Go.RowKit Go.Deep

/-- A class with a name alone, and faces. -/
def yC (xs : List (List UInt8)) : Cls := ⟨0, 49, 0, [65], [], xs, [], [], ⟨0, ⟨0, 0, [], [], 0, [], []⟩, ⟨0, [], 0, [], [], []⟩, [], [], [], []⟩⟩
theorem yC_rd {w : World} {A : Option Addr} {c : Nat} {xs : List (List UInt8)} (hx : Txt w A c xs) (hA : A = none → c = 0) : Cls.rd w (Z26 49 A xs.length c) (yC xs) := by
  refine ⟨rfl, rfl, rfl, rfl, rfl, rfl, ⟨A, c, rfl, hx, hA⟩, ⟨none, 0, rfl, Sl.nil _ _ _, fun _ => rfl⟩, ⟨none, 0, rfl, Sl.nil _ _ _, fun _ => rfl⟩, ?_⟩
  refine ⟨rfl, rfl, ⟨rfl, rfl, rfl, ⟨none, 0, rfl, Sl.nil _ _ _, fun _ => rfl⟩, ⟨none, 0, rfl, Sl.nil _ _ _, fun _ => rfl⟩, rfl, ⟨none, 0, rfl, Sl.nil _ _ _, fun _ => rfl⟩, ⟨none, 0, rfl, Sl.nil _ _ _, fun _ => rfl⟩⟩, ⟨rfl, rfl, rfl, rfl, rfl, rfl⟩, ⟨none, 0, rfl, Txt.nil _ _ _, fun _ => rfl⟩, ⟨none, 0, rfl, Sl.nil _ _ _, fun _ => rfl⟩, rfl, rfl⟩
theorem pv0_fits : Pv.fits ⟨0, [], 0, [], [], []⟩ := by
  unfold Pv.fits
  refine ⟨?_, ?_, ?_, ?_, ?_, ?_⟩ <;> first | decide | (constructor <;> decide) | simp
theorem yC_good {xs : List (List UInt8)} (h : xs.length ≤ 1000) (hl : ∀ l ∈ xs, l.length ≤ 1000) : (yC xs).good := by
  have i0 : I64 0 := ⟨by decide, by decide⟩
  have i1 : I64 49 := ⟨by decide, by decide⟩
  have n0 : 0 ≤ 140737488355328 := by decide
  have n1 : 1 ≤ 140737488355328 := by decide
  refine ⟨i0, i1, i0, n1, n0, ⟨by show xs.length ≤ _; omega, fun u hu => by have := hl u hu; omega⟩, ⟨n0, fun u hu => by cases hu⟩, ⟨n0, fun u hu => by cases hu⟩, ?_⟩
  refine ⟨i0, ⟨i0, i0, ⟨n0, fun u hu => by cases hu⟩, ⟨n0, fun u hu => by cases hu⟩, i0, ⟨n0, fun u hu => by cases hu⟩, ⟨n0, fun u hu => by cases hu⟩⟩, ?_, ⟨n0, fun u hu => by cases hu⟩, ⟨n0, fun u hu => by cases hu⟩, n0, n0⟩
  show Pv.fits ⟨0, [], 0, [], [], []⟩
  exact pv0_fits
theorem wpList_store_freshN {P : Program} {ops : Array Oper} {rest : List Oper} {o : Oper} {a : Act} {Q : Exit → Act → World → Prop} (hgd : o.guard = none) (ty : TypeId) (x y : Operand) (ho : o.op = .store ty x y)
    (w : World) (old : Array Value) (cs : List Value) (t : TypeId) (N : Nat) (hN : N = w.heap.size) (hx : a.eval x = .pointer (some ⟨N, 0, none⟩)) (hy : a.eval y = .agg cs.toArray) (hi : (P.info? ty).map (·.size) = some cs.length)
    (hold : old.size = cs.length) (h1 : ∀ u ∈ cs, u.oneCell' = true)
    (h : wpList P ops Q rest (a.put o.dst undef) (w.alloc (.cells cs.toArray t))) : wpList P ops Q (o :: rest) a (w.alloc (.cells old t)) := by
  subst hN
  exact wpList_store_fresh hgd ty x y ho w old cs t hx hy hi hold h1 h
theorem err8 : rulE [⟨true, 5⟩, ⟨([[91, 73]] : List (List UInt8)).all ckCls, 8⟩, ⟨true, 4⟩] = 8 := by decide
theorem Z26_one (m : Int) (A : Option Addr) (n c : Nat) : ∀ u ∈ Z26 m A n c, u.oneCell' = true := by
  intro u hu
  simp only [List.mem_cons, List.not_mem_nil, or_false] at hu
  rcases hu with rfl | rfl | rfl | rfl | rfl | rfl | rfl | rfl | rfl | rfl | rfl | rfl | rfl | rfl | rfl | rfl | rfl | rfl | rfl | rfl | rfl | rfl | rfl | rfl | rfl | rfl <;> rfl
set_option maxHeartbeats 16000000 in
set_option maxRecDepth 100000 in
theorem fixed20_any (w : World) (hm : MaxP w) : Calls Tryz.prog 4 #[] w fun e w' => e = .returned (.bool true) ∧ Below w.heap.size w w' := by
  have hcl : (Tryz.prog.info? 37).map (·.size) = some (Z26 49 none 0 0).length := by kernel_rfl
  have k1 := (Below.refl w.heap.size w).alloc (Nat.le_refl _) (.cells (Z26 49 none 0 0).toArray 37)
  have x1 := heap_alloc_new w (.cells (Z26 49 none 0 0).toArray 37)
  have X1 := Lib.hid x1
  have K1 := Lib.hid k1
  clear x1 k1
  go_enter Tryz.func4, Tryz.ntmps4
  go_upto_region 2 with (refine wpList_store_fresh rfl 37 _ _ rfl w _ (Z26 49 none 0 0) 37 rfl rfl hcl rfl (Z26_one 49 none 0 0) ?_)
  try dsimp only [Act.put]
  generalize w.alloc (.cells (Z26 49 none 0 0).toArray 37) = W1 at X1 K1 ⊢
  have k2 := (Below.refl W1.heap.size W1).alloc (Nat.le_refl _) (.cells #[.string ⟨#[91, 73]⟩] 9)
  have X2 := Lib.hid ((k2.block _ (Array.getElem?_eq_some_iff.1 X1.out).1).trans X1.out)
  have F2 := Lib.hid (heap_alloc_new W1 (.cells #[.string ⟨#[91, 73]⟩] 9))
  have K2 := Lib.hid (K1.out.trans (k2.mono K1.out.size))
  have hs2 : (W1.alloc (.cells #[.string ⟨#[91, 73]⟩] 9)).heap.size = W1.heap.size + 1 := by show (W1.heap.push _).size = _; simp
  obtain ⟨F, hF⟩ : ∃ F, F = W1.heap.size := ⟨_, rfl⟩
  obtain ⟨D, hD⟩ : ∃ D, D = W1.heap.size + 1 := ⟨_, rfl⟩
  obtain ⟨W3, hW3⟩ : ∃ W3, W3 = (W1.alloc (.cells #[.string ⟨#[91, 73]⟩] 9)).alloc (.cells (Z26 49 (some ⟨W1.heap.size, 0, none⟩) 1 1).toArray 37) := ⟨_, rfl⟩
  have k3 : Below (W1.alloc (.cells #[.string ⟨#[91, 73]⟩] 9)).heap.size (W1.alloc (.cells #[.string ⟨#[91, 73]⟩] 9)) W3 := by rw [hW3]; exact (Below.refl _ _).alloc (Nat.le_refl _) _
  have Xd := Lib.hid (show W3.heap[D]? = some (.cells (Z26 49 (some ⟨F, 0, none⟩) 1 1).toArray 37 (0, 0)) by rw [hD, ← hs2, hW3, hF]; exact heap_alloc_new _ _)
  have Xc := Lib.hid ((k3.block _ (Array.getElem?_eq_some_iff.1 X2.out).1).trans X2.out)
  have XF := Lib.hid (show W3.heap[F]? = some (.cells #[.string ⟨#[91, 73]⟩] 9 (0, 0)) by rw [hF]; exact (k3.block _ (Array.getElem?_eq_some_iff.1 F2.out).1).trans F2.out)
  have K := Lib.hid (K2.out.trans (k3.mono K2.out.size))
  have HS2 := Lib.hid hs2.symm
  clear k2 k3 X1 K1 X2 F2 K2 hs2
  go_upto_region 3 with (refine wpList_store_freshN rfl 37 _ _ rfl (W1.alloc (.cells #[.string ⟨#[91, 73]⟩] 9)) _ (Z26 49 (some ⟨W1.heap.size, 0, none⟩) 1 1) 37 (W1.heap.size + 1) HS2.out rfl rfl hcl rfl (Z26_one 49 _ 1 1) ?_)
  try dsimp only [Act.put]
  rw [← hW3, ← hD, ← hF]
  clear HS2
  clear hW3 hD hF
  have HLc := Lib.hid (show CellsAt W3 w.heap.size 0 (Z26 49 none 0 0) from cellsAt_block Xc.out 0 26)
  as_aux_lemma =>
  have C1 := Lib.hid (show Calls Tryz.prog 8 #[.agg (Z26 49 none 0 0).toArray] W3 fun e w' => e = .returned (.int .i64 0) ∧ Below W3.heap.size W3 w' from ckClass_49 none 0 [] W3 (Txt.nil _ _ _) (by simp) (fun l hl => by cases hl) (max_below hm K.out))
  go_wp2_with (refine wpList_load_cellsW (by rfl) 37 _ rfl w.heap.size 0 rfl _ HLc.out _ Tryz.underlying37 rfl hcl ?_)
  refine C1.out.mono ?_
  rintro e W4 ⟨rfl, hb⟩
  have Xc' := Lib.hid ((hb.block _ (Array.getElem?_eq_some_iff.1 Xc.out).1).trans Xc.out)
  have Xd' := Lib.hid ((hb.block _ (Array.getElem?_eq_some_iff.1 Xd.out).1).trans Xd.out)
  have XF' := Lib.hid ((hb.block _ (Array.getElem?_eq_some_iff.1 XF.out).1).trans XF.out)
  have K' := Lib.hid (K.out.trans (hb.mono K.out.size))
  clear hb C1 Xc Xd XF K HLc
  have Xc := Lib.hid Xc'.out
  have Xd := Lib.hid Xd'.out
  have XF := Lib.hid XF'.out
  have K := Lib.hid K'.out
  clear Xc' Xd' XF' K'
  as_aux_lemma =>
  have C2 := Lib.hid (ckClass_50 W4 (max_below hm K.out))
  go_wp2_with fail
  refine C2.out.mono ?_
  rintro e W5 ⟨rfl, hb⟩
  have Xc' := Lib.hid ((hb.block _ (Array.getElem?_eq_some_iff.1 Xc.out).1).trans Xc.out)
  have Xd' := Lib.hid ((hb.block _ (Array.getElem?_eq_some_iff.1 Xd.out).1).trans Xd.out)
  have XF' := Lib.hid ((hb.block _ (Array.getElem?_eq_some_iff.1 XF.out).1).trans XF.out)
  have K' := Lib.hid (K.out.trans (hb.mono K.out.size))
  clear hb C2 Xc Xd XF K
  have Xc := Lib.hid Xc'.out
  have Xd := Lib.hid Xd'.out
  have XF := Lib.hid XF'.out
  have K := Lib.hid K'.out
  clear Xc' Xd' XF' K'
  have HLd := Lib.hid (show CellsAt W5 D 0 (Z26 49 (some ⟨F, 0, none⟩) 1 1) from cellsAt_block Xd.out 0 26)
  have HTX := Lib.hid (show Txt W5 (some ⟨F, 0, none⟩) 1 [[91, 73]] from ⟨by simp, fun _ => ⟨F, 0, rfl, (Array.getElem?_eq_some_iff.1 XF.out).1, fun j x hx => by rw [Nat.zero_add, Lib.cell_of_heap XF.out, ← Array.getElem?_toList]; exact sc_get hx⟩⟩)
  as_aux_lemma =>
  have C3 := Lib.hid (show Calls Tryz.prog 8 #[.agg (Z26 49 (some ⟨F, 0, none⟩) 1 1).toArray] W5 fun e w' => e = .returned (.int .i64 8) ∧ Below W5.heap.size W5 w' by rw [← err8]; exact ckClass_49 (some ⟨F, 0, none⟩) 1 [[91, 73]] W5 HTX.out (by simp) (fun l hl => by simp at hl; rw [hl]; decide) (max_below hm K.out))
  go_wp2_with (refine wpList_load_cellsW (by rfl) 37 _ rfl D 0 rfl _ HLd.out _ Tryz.underlying37 rfl hcl ?_)
  refine C3.out.mono ?_
  rintro e W6 ⟨rfl, hb⟩
  have Xc' := Lib.hid ((hb.block _ (Array.getElem?_eq_some_iff.1 Xc.out).1).trans Xc.out)
  have Xd' := Lib.hid ((hb.block _ (Array.getElem?_eq_some_iff.1 Xd.out).1).trans Xd.out)
  have XF' := Lib.hid ((hb.block _ (Array.getElem?_eq_some_iff.1 XF.out).1).trans XF.out)
  have K' := Lib.hid (K.out.trans (hb.mono K.out.size))
  clear hb C3 Xc Xd XF K HLd HTX
  have Xc := Lib.hid Xc'.out
  have Xd := Lib.hid Xd'.out
  have XF := Lib.hid XF'.out
  have K := Lib.hid K'.out
  clear Xc' Xd' XF' K'
  as_aux_lemma =>
  have C4 := Lib.hid (ins_177 W6)
  go_wp2_with fail
  refine C4.out.mono ?_
  rintro e W7 ⟨rfl, hb⟩
  have Xc' := Lib.hid ((hb.block _ (Array.getElem?_eq_some_iff.1 Xc.out).1).trans Xc.out)
  have Xd' := Lib.hid ((hb.block _ (Array.getElem?_eq_some_iff.1 Xd.out).1).trans Xd.out)
  have XF' := Lib.hid ((hb.block _ (Array.getElem?_eq_some_iff.1 XF.out).1).trans XF.out)
  have K' := Lib.hid (K.out.trans (hb.mono K.out.size))
  clear hb C4 Xc Xd XF K
  have Xc := Lib.hid Xc'.out
  have Xd := Lib.hid Xd'.out
  have XF := Lib.hid XF'.out
  have K := Lib.hid K'.out
  clear Xc' Xd' XF' K'
  as_aux_lemma =>
  have C5 := Lib.hid (ins_19 W7)
  go_wp2_with fail
  refine C5.out.mono ?_
  rintro e W8 ⟨rfl, hb⟩
  have Xc' := Lib.hid ((hb.block _ (Array.getElem?_eq_some_iff.1 Xc.out).1).trans Xc.out)
  have Xd' := Lib.hid ((hb.block _ (Array.getElem?_eq_some_iff.1 Xd.out).1).trans Xd.out)
  have XF' := Lib.hid ((hb.block _ (Array.getElem?_eq_some_iff.1 XF.out).1).trans XF.out)
  have K' := Lib.hid (K.out.trans (hb.mono K.out.size))
  clear hb C5 Xc Xd XF K
  have Xc := Lib.hid Xc'.out
  have Xd := Lib.hid Xd'.out
  have XF := Lib.hid XF'.out
  have K := Lib.hid K'.out
  clear Xc' Xd' XF' K'
  have HLc := Lib.hid (show CellsAt W8 w.heap.size 0 (Z26 49 none 0 0) from cellsAt_block Xc.out 0 26)
  as_aux_lemma =>
  have C6 := Lib.hid (Same_any W8 (yC []) (yC []) _ _ (yC_rd (A := none) (c := 0) (Txt.nil W8 none 0) (fun _ => rfl)) (yC_rd (A := none) (c := 0) (Txt.nil W8 none 0) (fun _ => rfl)) (yC_good (by simp) (fun l hl => by cases hl)) (yC_good (by simp) (fun l hl => by cases hl)))
  go_wp2_with (refine wpList_load_cellsW (by rfl) 37 _ rfl w.heap.size 0 rfl _ HLc.out _ Tryz.underlying37 rfl hcl ?_)
  refine C6.out.mono ?_
  rintro e W9 ⟨⟨t, rfl, ht⟩, hb⟩
  obtain rfl : t = true := ht.2 (by first | rfl | trivial)
  clear ht
  have Xc' := Lib.hid ((hb.block _ (Array.getElem?_eq_some_iff.1 Xc.out).1).trans Xc.out)
  have Xd' := Lib.hid ((hb.block _ (Array.getElem?_eq_some_iff.1 Xd.out).1).trans Xd.out)
  have XF' := Lib.hid ((hb.block _ (Array.getElem?_eq_some_iff.1 XF.out).1).trans XF.out)
  have K' := Lib.hid (K.out.trans (hb.mono K.out.size))
  clear hb C6 Xc Xd XF K HLc
  have Xc := Lib.hid Xc'.out
  have Xd := Lib.hid Xd'.out
  have XF := Lib.hid XF'.out
  have K := Lib.hid K'.out
  clear Xc' Xd' XF' K'
  have HLc := Lib.hid (show CellsAt W9 w.heap.size 0 (Z26 49 none 0 0) from cellsAt_block Xc.out 0 26)
  have HLd := Lib.hid (show CellsAt W9 D 0 (Z26 49 (some ⟨F, 0, none⟩) 1 1) from cellsAt_block Xd.out 0 26)
  have HTX := Lib.hid (show Txt W9 (some ⟨F, 0, none⟩) 1 [[91, 73]] from ⟨by simp, fun _ => ⟨F, 0, rfl, (Array.getElem?_eq_some_iff.1 XF.out).1, fun j x hx => by rw [Nat.zero_add, Lib.cell_of_heap XF.out, ← Array.getElem?_toList]; exact sc_get hx⟩⟩)
  as_aux_lemma =>
  have C7 := Lib.hid (Same_any W9 (yC []) (yC [[91, 73]]) _ _ (yC_rd (A := none) (c := 0) (Txt.nil W9 none 0) (fun _ => rfl)) (yC_rd HTX.out (fun h => by cases h)) (yC_good (by simp) (fun l hl => by cases hl)) (yC_good (by simp) (fun l hl => by simp at hl; rw [hl]; decide)))
  go_wp2_with (first | refine wpList_load_cellsW (by rfl) 37 _ rfl w.heap.size 0 rfl _ HLc.out _ Tryz.underlying37 rfl hcl ?_ | refine wpList_load_cellsW (by rfl) 37 _ rfl D 0 rfl _ HLd.out _ Tryz.underlying37 rfl hcl ?_)
  refine C7.out.mono ?_
  rintro e W10 ⟨⟨t, rfl, ht⟩, hb⟩
  obtain rfl : t = false := by
    cases t with
    | false => rfl
    | true => exact absurd (congrArg Cls.faces (ht.1 rfl)) (by decide)
  clear ht
  have Xc' := Lib.hid ((hb.block _ (Array.getElem?_eq_some_iff.1 Xc.out).1).trans Xc.out)
  have Xd' := Lib.hid ((hb.block _ (Array.getElem?_eq_some_iff.1 Xd.out).1).trans Xd.out)
  have XF' := Lib.hid ((hb.block _ (Array.getElem?_eq_some_iff.1 XF.out).1).trans XF.out)
  have K' := Lib.hid (K.out.trans (hb.mono K.out.size))
  clear hb C7 Xc Xd XF K HLc HLd HTX
  have Xc := Lib.hid Xc'.out
  have Xd := Lib.hid Xd'.out
  have XF := Lib.hid XF'.out
  have K := Lib.hid K'.out
  clear Xc' Xd' XF' K'
  as_aux_lemma =>
  have C8 := Lib.hid (show Calls Tryz.prog 10 #[.string ⟨#[97]⟩] W10 fun e w' => e = .returned (.bool true) ∧ Below W10.heap.size W10 w' from text_any [97] W10 (by simp))
  go_wp2_with fail
  refine C8.out.mono ?_
  rintro e W11 ⟨rfl, hb⟩
  have K' := Lib.hid (K.out.trans (hb.mono K.out.size))
  clear hb C8 Xc Xd XF K
  go_wp2_with fail
  go_ret
  exact ⟨rfl, K'.out⟩
end Go.Proofs.YtibogpidnnodnaaGreatDoor
