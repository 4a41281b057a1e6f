/- Joined texts: RefD, Ins, RefE, Mbr, Lcode. -/
import Derived.Test.YtpjafbinlklojaaDoorPk5
import Derived.Test.YtpjafbinlklojaaDoorPk6
import Derived.Deep.DeepCutAuto
/- The walks of the document's layer 35: what is said beside. Printed by mk_rbes.py. -/
namespace Go.Proofs.YtpjafbinlklojaaDoor
open Go.RowKit Go.Deep
theorem riors_len : ∀ ss : List (List UInt8), (ss.flatMap Ri.or).length ≤ 3 * (ss.map fun s => s.length + 1).sum
  | [] => Nat.le_refl _
  | s :: ss => by
    have h1 := riors_len ss
    have h2 := rior_len s
    simp only [List.flatMap_cons, List.length_append, List.map_cons, List.sum_cons]
    omega
theorem take_sum {α : Type} (f : α → Nat) (xs : List α) (i : Nat) : ((xs.take i).map f).sum ≤ (xs.map f).sum := by
  conv => rhs; rw [← List.take_append_drop i xs]
  rw [List.map_append, List.sum_append]
  omega
theorem rior_snoc {ss : List (List UInt8)} {i : Nat} {x : List UInt8} (h : ss[i]? = some x) : (ss.take (i + 1)).flatMap Ri.or = (ss.take i).flatMap Ri.or ++ Ri.or x := by
  rw [take_snocI _ _ _ h, List.flatMap_append]
  simp
theorem rbes_len (b : Bool) (L a : List UInt8) : (L ++ if b then a else []).length ≤ L.length + a.length := by
  cases b <;> simp
set_option maxHeartbeats 8000000 in
set_option maxRecDepth 100000 in
theorem rbeside_any (w : World) (y : Atr) (cs : List Value) (hr : Atr.rd w cs y) (hg : y.good) (hb : y.blk ≤ 2000000) :
    Calls Tryd.prog 22 #[.agg cs.toArray] w fun e w' => e = .returned (.string (bs (Ri.beside y))) ∧ Below w.heap.size w w' := by
  obtain ⟨hok, hths, hsg, hsc, hthn, _, _⟩ := atr_ok hg hb
  have hvl : (Li.value y.value.li).length ≤ 300000000 := value_len _ hok
  have hol := riors_len y.throws
  have hos : (y.throws.map fun s => s.length + 1).sum ≤ 2000000 := by unfold Atr.blk at hb; omega
  have hnl := rnum_len (ns := [y.has]) (fun x hx => by rw [List.mem_singleton.1 hx]; exact hg.1)
  have hl1 := rior_len y.signature
  have hl2 := rior_len y.source
  obtain ⟨C0, e0, C1, e1, C2, e2, C3, e3, C4, e4, C5, e5, rfl, _, _, _, _, ⟨sT, _⟩, _⟩ := Atr.leafs hr
  have HTS := Lib.hid sT
  have HOK := Lib.hid hok
  have HTL := Lib.hid hths
  have HIN := Lib.hid (show ∀ x ∈ [y.has], I64 x from fun x hx => by rw [List.mem_singleton.1 hx]; exact hg.1)
  have k1 := (Below.refl w.heap.size w).alloc (Nat.le_refl _) (.cells #[.int .i64 y.has, .int .i64 y.code.stack, .int .i64 y.code.locals, .slice C0 y.code.ops.length e0, .slice C1 y.code.handlers.length e1, .int .i64 y.code.has, .slice C2 y.code.lines.length e2, .slice C3 y.code.slots.length e3, .int .i64 y.value.tag, .string (bs y.value.text), .int .u64 y.value.bits, .string (bs y.value.cls), .string (bs y.value.name), .string (bs y.value.desc), .slice C4 y.throws.length e4, .slice C5 y.inners.length e5, .string (bs y.signature), .string (bs y.source)] 35)
  have X0 := Lib.hid (heap_alloc_new w (.cells #[.int .i64 y.has, .int .i64 y.code.stack, .int .i64 y.code.locals, .slice C0 y.code.ops.length e0, .slice C1 y.code.handlers.length e1, .int .i64 y.code.has, .slice C2 y.code.lines.length e2, .slice C3 y.code.slots.length e3, .int .i64 y.value.tag, .string (bs y.value.text), .int .u64 y.value.bits, .string (bs y.value.cls), .string (bs y.value.name), .string (bs y.value.desc), .slice C4 y.throws.length e4, .slice C5 y.inners.length e5, .string (bs y.signature), .string (bs y.source)] 35))
  have K0 := Lib.hid k1
  clear k1 hr sT hok hths hg hb
  go_enter Tryd.func22, Tryd.ntmps22
  go_upto_region 1 with fail
  generalize w.alloc (.cells #[.int .i64 y.has, .int .i64 y.code.stack, .int .i64 y.code.locals, .slice C0 y.code.ops.length e0, .slice C1 y.code.handlers.length e1, .int .i64 y.code.has, .slice C2 y.code.lines.length e2, .slice C3 y.code.slots.length e3, .int .i64 y.value.tag, .string (bs y.value.text), .int .u64 y.value.bits, .string (bs y.value.cls), .string (bs y.value.name), .string (bs y.value.desc), .slice C4 y.throws.length e4, .slice C5 y.inners.length e5, .string (bs y.signature), .string (bs y.source)] 35) = W at X0 K0 ⊢
  have f0 : W.cell? ⟨w.heap.size, 0, none⟩ = some (.int .i64 y.has) := by rw [Lib.cell_of_heap X0.out]; rfl
  have hq := (Array.getElem?_eq_some_iff.1 X0.out).1
  have k2 := (Below.refl W.heap.size W).alloc (Nat.le_refl _) (.cells #[.int .i64 y.has] 3)
  have CN := Lib.hid (rnum_blk (heap_alloc_new W (.cells #[.int .i64 y.has] 3)) [y.has] 1 rfl rfl HIN.out (by simp))
  have K1 := Lib.hid k2
  clear k2
  go_upto_region 2 with fail
  refine CN.out.mono ?_
  rintro e w1 ⟨rfl, hb1⟩
  have kk := K1.out.trans (hb1.mono K1.out.size)
  have K2 := Lib.hid (K0.out.trans (kk.mono K0.out.size))
  have X2 := Lib.hid ((kk.block _ hq).trans X0.out)
  clear hb1 kk CN K1 K0 X0 f0 hq
  obtain ⟨A0, hA0⟩ : ∃ z, z = 32 :: [98, 101, 115, 105, 100, 101] ++ Ri.num [y.has] := ⟨_, rfl⟩
  have hz : (bs (Ri.num [y.has])).size ≤ 21 := by rw [bs_size]; exact hnl
  have ha0 : A0.length ≤ 30 := by rw [hA0]; simp only [List.length_cons, List.length_append, List.length_nil] at hnl ⊢; omega
  have hcat : (⟨#[32, 98, 101, 115, 105, 100, 101]⟩ : ByteArray) ++ bs (Ri.num [y.has]) = bs A0 := by rw [show (⟨#[32, 98, 101, 115, 105, 100, 101]⟩ : ByteArray) = bs [32, 98, 101, 115, 105, 100, 101] from rfl, bs_append, hA0]
  have HA0 := Lib.hid hA0
  clear hA0
  go_upto_region 2 with fail
  clear hcat hz hnl
  have f0 : w1.cell? ⟨w.heap.size, 0, none⟩ = some (.int .i64 y.has) := by rw [Lib.cell_of_heap X2.out]; rfl
  have hq := (Array.getElem?_eq_some_iff.1 X2.out).1
  go_upto_if 14 with fail
  go_cut [3] (fun s3 wx => s3 = .string (bs (A0 ++ if hasB y.has 2 then (32 :: [118, 97, 108, 117, 101] ++ 32 :: Li.value y.value.li) else [])) ∧ Below w.heap.size w wx ∧ wx.heap[w.heap.size]? = some (.cells #[.int .i64 y.has, .int .i64 y.code.stack, .int .i64 y.code.locals, .slice C0 y.code.ops.length e0, .slice C1 y.code.handlers.length e1, .int .i64 y.code.has, .slice C2 y.code.lines.length e2, .slice C3 y.code.slots.length e3, .int .i64 y.value.tag, .string (bs y.value.text), .int .u64 y.value.bits, .string (bs y.value.cls), .string (bs y.value.name), .string (bs y.value.desc), .slice C4 y.throws.length e4, .slice C5 y.inners.length e5, .string (bs y.signature), .string (bs y.source)] 35 (0, 0)))
  case first =>
    as_aux_lemma =>
    cases hh : hasB y.has 2 with
    | false =>
      have hh2 : (bits .and .i64 y.has 2 != 0) = false := hh
      go_wp2_with fail
      go_meet
      exact ⟨by simp [hh], K2.out, X2.out⟩
    | true =>
      have hh2 : (bits .and .i64 y.has 2 != 0) = true := hh
      have za : (bs A0).size ≤ 30 := by rw [bs_size]; omega
      have f8 : w1.cell? ⟨w.heap.size, 8, none⟩ = some (.int .i64 y.value.tag) := by rw [Lib.cell_of_heap X2.out]; rfl
      have f9 : w1.cell? ⟨w.heap.size, 9, none⟩ = some (.string (bs y.value.text)) := by rw [Lib.cell_of_heap X2.out]; rfl
      have f10 : w1.cell? ⟨w.heap.size, 10, none⟩ = some (.int .u64 y.value.bits) := by rw [Lib.cell_of_heap X2.out]; rfl
      have f11 : w1.cell? ⟨w.heap.size, 11, none⟩ = some (.string (bs y.value.cls)) := by rw [Lib.cell_of_heap X2.out]; rfl
      have f12 : w1.cell? ⟨w.heap.size, 12, none⟩ = some (.string (bs y.value.name)) := by rw [Lib.cell_of_heap X2.out]; rfl
      have f13 : w1.cell? ⟨w.heap.size, 13, none⟩ = some (.string (bs y.value.desc)) := by rw [Lib.cell_of_heap X2.out]; rfl
      have zv : (bs (Li.value y.value.li)).size ≤ 300000000 := by rw [bs_size]; exact hvl
      have CV := Lib.hid (rvalue_any y.value.li w1 HOK.out)
      go_wp2_with fail
      refine CV.out.mono ?_
      rintro e w2 ⟨rfl, hb2⟩
      have K3 := Lib.hid (K2.out.trans (hb2.mono K2.out.size))
      have X3 := Lib.hid ((hb2.block _ hq).trans X2.out)
      clear hb2 CV
      have hcat := Lib.hid (show bs A0 ++ (⟨#[32, 118, 97, 108, 117, 101, 32]⟩ : ByteArray) ++ bs (Li.value y.value.li) = bs (A0 ++ (32 :: [118, 97, 108, 117, 101] ++ 32 :: Li.value y.value.li)) by rw [show (⟨#[32, 118, 97, 108, 117, 101, 32]⟩ : ByteArray) = bs [32, 118, 97, 108, 117, 101, 32] from rfl, bs_append, bs_append]; simp)
      go_wp2_with fail
      go_meet
      exact ⟨by rw [hcat.out]; simp [hh], K3.out, X3.out⟩
  case rest =>
  obtain ⟨rfl, k1, x1⟩ := hcut
  obtain ⟨A1, hA1⟩ : ∃ z, z = A0 ++ if hasB y.has 2 then (32 :: [118, 97, 108, 117, 101] ++ 32 :: Li.value y.value.li) else [] := ⟨_, rfl⟩
  have hA1l : A1.length ≤ 300000040 := by rw [hA1]; refine Nat.le_trans (rbes_len _ _ _) ?_; simp only [List.length_cons, List.length_append, List.length_nil]; omega
  rw [← hA1]
  have HA1 := Lib.hid hA1
  have KA1 := Lib.hid k1
  have XA1 := Lib.hid x1
  clear hA1 k1 x1 K2 X2 f0 hq
  have f0 : wc.cell? ⟨w.heap.size, 0, none⟩ = some (.int .i64 y.has) := by rw [Lib.cell_of_heap XA1.out]; rfl
  have hq := (Array.getElem?_eq_some_iff.1 XA1.out).1
  go_upto_if 24 with fail
  go_cut [3] (fun s3 wx => s3 = .string (bs (A1 ++ if hasB y.has 8 then (32 :: [116, 104, 114, 111, 119, 115] ++ y.throws.flatMap Ri.or) else [])) ∧ Below w.heap.size w wx ∧ wx.heap[w.heap.size]? = some (.cells #[.int .i64 y.has, .int .i64 y.code.stack, .int .i64 y.code.locals, .slice C0 y.code.ops.length e0, .slice C1 y.code.handlers.length e1, .int .i64 y.code.has, .slice C2 y.code.lines.length e2, .slice C3 y.code.slots.length e3, .int .i64 y.value.tag, .string (bs y.value.text), .int .u64 y.value.bits, .string (bs y.value.cls), .string (bs y.value.name), .string (bs y.value.desc), .slice C4 y.throws.length e4, .slice C5 y.inners.length e5, .string (bs y.signature), .string (bs y.source)] 35 (0, 0)))
  case first =>
    as_aux_lemma =>
    cases hh : hasB y.has 8 with
    | false =>
      have hh2 : (bits .and .i64 y.has 8 != 0) = false := hh
      go_wp2_with fail
      go_meet
      exact ⟨by simp [hh], KA1.out, XA1.out⟩
    | true =>
      have hh2 : (bits .and .i64 y.has 8 != 0) = true := hh
      have za : (bs A1).size ≤ 300000040 := by rw [bs_size]; omega
      have zo : y.throws.length ≤ 2000000 := hthn
      have f3 : wc.cell? ⟨w.heap.size, 14, none⟩ = some (.slice C4 y.throws.length e4) := by rw [Lib.cell_of_heap XA1.out]; rfl
      obtain ⟨A2, hA2⟩ : ∃ z, z = A1 ++ 32 :: [116, 104, 114, 111, 119, 115] := ⟨_, rfl⟩
      have hcat : bs A1 ++ (⟨#[32, 116, 104, 114, 111, 119, 115]⟩ : ByteArray) = bs A2 := by rw [show (⟨#[32, 116, 104, 114, 111, 119, 115]⟩ : ByteArray) = bs [32, 116, 104, 114, 111, 119, 115] from rfl, bs_append, hA2]
      have hal : A2.length ≤ 300000050 := by rw [hA2]; simp only [List.length_append, List.length_cons, List.length_nil]; omega
      have HA2 := Lib.hid hA2
      clear hA2
      go_upto_region 7 with fail
      clear hcat f3 za
      go_loopw [3, 30] (fun s3 s30 wr => ∃ i : Nat, i ≤ y.throws.length ∧ s30 = .int .i64 i ∧ s3 = .string (bs (A2 ++ (y.throws.take i).flatMap Ri.or)) ∧ Below w.heap.size w wr ∧ wr.heap[w.heap.size]? = some (.cells #[.int .i64 y.has, .int .i64 y.code.stack, .int .i64 y.code.locals, .slice C0 y.code.ops.length e0, .slice C1 y.code.handlers.length e1, .int .i64 y.code.has, .slice C2 y.code.lines.length e2, .slice C3 y.code.slots.length e3, .int .i64 y.value.tag, .string (bs y.value.text), .int .u64 y.value.bits, .string (bs y.value.cls), .string (bs y.value.name), .string (bs y.value.desc), .slice C4 y.throws.length e4, .slice C5 y.inners.length e5, .string (bs y.signature), .string (bs y.source)] 35 (0, 0))) (fun _ s30 _ => y.throws.length - (intOf s30).toNat)
      case atStart => exact ⟨0, Nat.zero_le _, rfl, by simp, KA1.out, XA1.out⟩
      case round =>
        obtain ⟨i, hil, rfl, rfl, hK, hX⟩ := hrel
        have K4 := Lib.hid hK
        have X4 := Lib.hid hX
        by_cases h1 : i < y.throws.length
        · obtain ⟨g, og, x, rfl, hgw, hx, hc⟩ := HTS.out.at_ h1
          have hxl := HTL.out x (List.mem_of_getElem? hx)
          have hc2 : wr.cell? ⟨g, og + i, none⟩ = some (.string (bs x)) := by rw [World.cell?_of_block (hK.block g hgw)]; exact hc
          have hgr : g < wr.heap.size := Nat.lt_of_lt_of_le hgw hK.size
          have hsn := Lib.hid (rior_snoc hx)
          have CO := Lib.hid (ror_any x wr hxl)
          have hzx : (bs (Ri.or x)).size ≤ 300000002 := by rw [bs_size]; have := rior_len x; omega
          have hza : (bs (A2 ++ (y.throws.take i).flatMap Ri.or)).size ≤ 320000000 := by rw [bs_size, List.length_append]; have h2 := riors_len (y.throws.take i); have h3 : ((y.throws.take i).map fun s => s.length + 1).sum ≤ (y.throws.map fun s => s.length + 1).sum := take_sum _ _ _; omega
          have hcat := Lib.hid (show bs (A2 ++ (y.throws.take i).flatMap Ri.or) ++ bs (Ri.or x) = bs (A2 ++ (y.throws.take (i + 1)).flatMap Ri.or) by rw [bs_append, hsn.out, List.append_assoc])
          clear hK hX hc hgw hx
          go_wp2_with fail
          refine CO.out.mono ?_
          rintro e w5 ⟨rfl, hb5⟩
          have K5 := Lib.hid (K4.out.trans (hb5.mono K4.out.size))
          have X5 := Lib.hid ((hb5.block _ (Array.getElem?_eq_some_iff.1 X4.out).1).trans X4.out)
          clear hb5 CO
          go_wp2_with fail
          go_simp
          refine ⟨⟨_, _, _, ⟨i + 1, h1, rfl, ?_, K5.out, X5.out⟩, rfl, rfl, rfl⟩, less_next h1⟩
          rw [hcat.out]
        · have hie : i = y.throws.length := by omega
          subst hie
          clear hK hX
          go_wp2_with fail
          go_meet
          exact ⟨by rw [List.take_length, HA2.out]; simp [hh], K4.out, X4.out⟩
  case rest =>
  obtain ⟨rfl, k2, x2⟩ := hcut
  obtain ⟨A3, hA3⟩ : ∃ z, z = A1 ++ if hasB y.has 8 then (32 :: [116, 104, 114, 111, 119, 115] ++ y.throws.flatMap Ri.or) else [] := ⟨_, rfl⟩
  have hA3l : A3.length ≤ 320000000 := by rw [hA3]; refine Nat.le_trans (rbes_len _ _ _) ?_; simp only [List.length_cons, List.length_append, List.length_nil]; omega
  rw [← hA3]
  have HA3 := Lib.hid hA3
  have KA3 := Lib.hid k2
  have XA3 := Lib.hid x2
  clear hA3 k2 x2 KA1 XA1 f0 hq
  have f0 : wc.cell? ⟨w.heap.size, 0, none⟩ = some (.int .i64 y.has) := by rw [Lib.cell_of_heap XA3.out]; rfl
  have hq := (Array.getElem?_eq_some_iff.1 XA3.out).1
  go_upto_if 42 with fail
  go_cut [3] (fun s3 wx => s3 = .string (bs (A3 ++ if hasB y.has 32 then (32 :: [115, 105, 103, 110, 97, 116, 117, 114, 101] ++ Ri.or y.signature) else [])) ∧ Below w.heap.size w wx ∧ wx.heap[w.heap.size]? = some (.cells #[.int .i64 y.has, .int .i64 y.code.stack, .int .i64 y.code.locals, .slice C0 y.code.ops.length e0, .slice C1 y.code.handlers.length e1, .int .i64 y.code.has, .slice C2 y.code.lines.length e2, .slice C3 y.code.slots.length e3, .int .i64 y.value.tag, .string (bs y.value.text), .int .u64 y.value.bits, .string (bs y.value.cls), .string (bs y.value.name), .string (bs y.value.desc), .slice C4 y.throws.length e4, .slice C5 y.inners.length e5, .string (bs y.signature), .string (bs y.source)] 35 (0, 0)))
  case first =>
    as_aux_lemma =>
    cases hh : hasB y.has 32 with
    | false =>
      have hh2 : (bits .and .i64 y.has 32 != 0) = false := hh
      go_wp2_with fail
      go_meet
      exact ⟨by simp [hh], KA3.out, XA3.out⟩
    | true =>
      have hh2 : (bits .and .i64 y.has 32 != 0) = true := hh
      have za : (bs A3).size ≤ 320000000 := by rw [bs_size]; omega
      have f16 : wc.cell? ⟨w.heap.size, 16, none⟩ = some (.string (bs y.signature)) := by rw [Lib.cell_of_heap XA3.out]; rfl
      have zx : (bs (Ri.or y.signature)).size ≤ 300000002 := by rw [bs_size]; omega
      have CO := Lib.hid (ror_any y.signature wc hsg)
      go_wp2_with fail
      refine CO.out.mono ?_
      rintro e w2 ⟨rfl, hb2⟩
      have K3 := Lib.hid (KA3.out.trans (hb2.mono KA3.out.size))
      have X3 := Lib.hid ((hb2.block _ hq).trans XA3.out)
      clear hb2 CO
      have hcat := Lib.hid (show bs A3 ++ (⟨#[32, 115, 105, 103, 110, 97, 116, 117, 114, 101]⟩ : ByteArray) ++ bs (Ri.or y.signature) = bs (A3 ++ (32 :: [115, 105, 103, 110, 97, 116, 117, 114, 101] ++ Ri.or y.signature)) by rw [show (⟨#[32, 115, 105, 103, 110, 97, 116, 117, 114, 101]⟩ : ByteArray) = bs [32, 115, 105, 103, 110, 97, 116, 117, 114, 101] from rfl, bs_append, bs_append]; simp)
      go_wp2_with fail
      go_meet
      exact ⟨by rw [hcat.out]; simp [hh], K3.out, X3.out⟩
  case rest =>
  obtain ⟨rfl, k3, x3⟩ := hcut
  obtain ⟨A4, hA4⟩ : ∃ z, z = A3 ++ if hasB y.has 32 then (32 :: [115, 105, 103, 110, 97, 116, 117, 114, 101] ++ Ri.or y.signature) else [] := ⟨_, rfl⟩
  have hA4l : A4.length ≤ 630000000 := by rw [hA4]; refine Nat.le_trans (rbes_len _ _ _) ?_; simp only [List.length_cons, List.length_append, List.length_nil]; omega
  rw [← hA4]
  have HA4 := Lib.hid hA4
  have KA4 := Lib.hid k3
  have XA4 := Lib.hid x3
  clear hA4 k3 x3 KA3 XA3 f0 hq
  have f0 : wc.cell? ⟨w.heap.size, 0, none⟩ = some (.int .i64 y.has) := by rw [Lib.cell_of_heap XA4.out]; rfl
  have hq := (Array.getElem?_eq_some_iff.1 XA4.out).1
  go_upto_if 52 with fail
  go_cut [3] (fun s3 wx => s3 = .string (bs (A4 ++ if hasB y.has 64 then (32 :: [115, 111, 117, 114, 99, 101] ++ Ri.or y.source) else [])) ∧ Below w.heap.size w wx ∧ wx.heap[w.heap.size]? = some (.cells #[.int .i64 y.has, .int .i64 y.code.stack, .int .i64 y.code.locals, .slice C0 y.code.ops.length e0, .slice C1 y.code.handlers.length e1, .int .i64 y.code.has, .slice C2 y.code.lines.length e2, .slice C3 y.code.slots.length e3, .int .i64 y.value.tag, .string (bs y.value.text), .int .u64 y.value.bits, .string (bs y.value.cls), .string (bs y.value.name), .string (bs y.value.desc), .slice C4 y.throws.length e4, .slice C5 y.inners.length e5, .string (bs y.signature), .string (bs y.source)] 35 (0, 0)))
  case first =>
    as_aux_lemma =>
    cases hh : hasB y.has 64 with
    | false =>
      have hh2 : (bits .and .i64 y.has 64 != 0) = false := hh
      go_wp2_with fail
      go_meet
      exact ⟨by simp [hh], KA4.out, XA4.out⟩
    | true =>
      have hh2 : (bits .and .i64 y.has 64 != 0) = true := hh
      have za : (bs A4).size ≤ 630000000 := by rw [bs_size]; omega
      have f17 : wc.cell? ⟨w.heap.size, 17, none⟩ = some (.string (bs y.source)) := by rw [Lib.cell_of_heap XA4.out]; rfl
      have zx : (bs (Ri.or y.source)).size ≤ 300000002 := by rw [bs_size]; omega
      have CO := Lib.hid (ror_any y.source wc hsc)
      go_wp2_with fail
      refine CO.out.mono ?_
      rintro e w2 ⟨rfl, hb2⟩
      have K3 := Lib.hid (KA4.out.trans (hb2.mono KA4.out.size))
      have X3 := Lib.hid ((hb2.block _ hq).trans XA4.out)
      clear hb2 CO
      have hcat := Lib.hid (show bs A4 ++ (⟨#[32, 115, 111, 117, 114, 99, 101]⟩ : ByteArray) ++ bs (Ri.or y.source) = bs (A4 ++ (32 :: [115, 111, 117, 114, 99, 101] ++ Ri.or y.source)) by rw [show (⟨#[32, 115, 111, 117, 114, 99, 101]⟩ : ByteArray) = bs [32, 115, 111, 117, 114, 99, 101] from rfl, bs_append, bs_append]; simp)
      go_wp2_with fail
      go_meet
      exact ⟨by rw [hcat.out]; simp [hh], K3.out, X3.out⟩
  case rest =>
  obtain ⟨rfl, k4, x4⟩ := hcut
  obtain ⟨A5, hA5⟩ : ∃ z, z = A4 ++ if hasB y.has 64 then (32 :: [115, 111, 117, 114, 99, 101] ++ Ri.or y.source) else [] := ⟨_, rfl⟩
  have hA5l : A5.length ≤ 940000000 := by rw [hA5]; refine Nat.le_trans (rbes_len _ _ _) ?_; simp only [List.length_cons, List.length_append, List.length_nil]; omega
  rw [← hA5]
  have HA5 := Lib.hid hA5
  have KA5 := Lib.hid k4
  have XA5 := Lib.hid x4
  clear hA5 k4 x4 KA4 XA4 f0 hq
  have HE := Lib.hid (show A5 = Ri.beside y by rw [HA5.out, HA4.out, HA3.out, HA1.out, HA0.out]; unfold Ri.beside; rfl)
  go_wp2_with fail
  go_ret
  exact ⟨by rw [← HE.out]; rfl, KA5.out⟩
end Go.Proofs.YtpjafbinlklojaaDoor

/- Layer 35: an instruction's line, whole. Printed by mk_ins.py. -/
namespace Go.Proofs.YtpjafbinlklojaaDoor
open Go.RowKit Go.Deep

theorem trow_blk {x : World} {B base : Nat} {C : Array Value} (h : x.heap[B]? = some (.cells C 9 (0, 0))) (hb : base ≤ B) (xs : List (List UInt8)) (n : Nat) (hC : C.toList = sc xs) (hn : n = xs.length) (hm : n ≤ maxLen) : TRow x base (.slice (some ⟨B, 0, none⟩) n n) xs := by
  subst hn
  have e : C.size = xs.length := by rw [← Array.length_toList, hC, sc_length]
  refine ⟨by rw [sc_length, Nat.mul_one], .inr ⟨B, xs.length, C, rfl, hb, h, Nat.le_refl _, hm, by rw [e, Nat.mul_one], ?_⟩⟩
  rw [Nat.mul_one, hC, ← sc_length xs]
  exact List.take_length
/-- How long an instruction's words are. -/
theorem ins_ok {y : Cins} (at_ : Int) (hg : y.good) (hb : y.blk ≤ 2000000) (hat : I64 at_) : y.const.li.ok ∧ (∀ n ∈ [at_, y.op, y.var, y.num, y.to], I64 n) ∧ (Li.line (Li.insL at_ y)).length ≤ 1000000000 ∧ min y.keys.length y.targets.length ≤ 2000000 ∧ (∀ k ∈ y.keys, I64 k) ∧ (∀ k ∈ y.targets, I64 k) ∧ y.keys.length ≤ 2000000 ∧ y.targets.length ≤ 2000000 := by
  have hv := hg.2.2.2.1
  have hk := hg.2.2.2.2.2.1.2
  have ht := hg.2.2.2.2.2.2.2
  have h5 : ∀ n ∈ [at_, y.op, y.var, y.num, y.to], I64 n := fun n hn => by
    simp only [List.mem_cons, List.not_mem_nil, or_false] at hn
    rcases hn with rfl | rfl | rfl | rfl | rfl
    · exact hat
    · exact hg.1
    · exact hg.2.1
    · exact hg.2.2.1
    · exact hg.2.2.2.2.1
  unfold Cins.blk at hb
  have hi := ints_len2 h5
  have hl := value_len2 y.const hv
  refine ⟨val_ok hv (by omega), h5, ?_, by omega, hk, ht, by omega, by omega⟩
  have hz : ∀ l : List (Int × Int), (∀ k ∈ l, k.1 ∈ y.keys ∧ k.2 ∈ y.targets) → ((l.map fun k => Lib.itoa k.1 ++ 58 :: Lib.itoa k.2).map fun x => x.length + 1).sum ≤ 42 * l.length := fun l => by
    induction l with
    | nil => intro _; exact Nat.le_refl _
    | cons a l ih =>
      intro h
      have h1 := itoa_len (hk _ (h a (List.mem_cons_self ..)).1)
      have h2 := itoa_len (ht _ (h a (List.mem_cons_self ..)).2)
      have h3 := ih (fun k hk => h k (List.mem_cons_of_mem _ hk))
      simp only [List.map_cons, List.sum_cons, List.length_cons, List.length_append]
      omega
  have h2 := hz (y.keys.zip y.targets) (fun k hk => ⟨(List.of_mem_zip hk).1, (List.of_mem_zip hk).2⟩)
  rw [List.length_zip] at h2
  refine Nat.le_trans (line_sum _) ?_
  unfold Li.insL
  simp only [List.map_append, List.sum_append, List.map_cons, List.map_nil, List.sum_cons, List.sum_nil]
  simp only [List.length_cons, List.length_nil] at hi
  omega
theorem zip_at {ks ts : List Int} {i : Nat} {k t : Int} (h1 : ks[i]? = some k) (h2 : ts[i]? = some t) : (ks.zip ts)[i]? = some (k, t) := by
  rw [List.getElem?_zip_eq_some]
  exact ⟨h1, h2⟩
theorem key_text (k t : Int) : bs (Lib.itoa k) ++ (⟨#[58]⟩ : ByteArray) ++ bs (Lib.itoa t) = bs (Lib.itoa k ++ 58 :: Lib.itoa t) := by
  rw [show (⟨#[58]⟩ : ByteArray) = bs [58] from rfl, bs_append, bs_append, List.append_assoc]
  rfl
set_option maxHeartbeats 8000000 in
set_option maxRecDepth 100000 in
theorem ins_any (w : World) (at_ : Int) (y : Cins) (cs : List Value) (hr : Cins.rd w cs y) (hg : y.good) (hb : y.blk ≤ 2000000) (hat : I64 at_) (ht : TabP w) :
    Calls Tryd.prog 11 #[.int .i64 at_, .agg cs.toArray] w fun e w' => e = .returned (.string (bs (Li.ins at_ y))) ∧ Below w.heap.size w w' := by
  obtain ⟨hok, h5, hline, hmin, hks, hts, hkn, htn⟩ := ins_ok at_ hg hb hat
  obtain ⟨B5, d5, B6, d6, rfl, ⟨sK, _⟩, ⟨sT, _⟩⟩ := Cins.leafs hr
  have HK := Lib.hid sK
  have HTG := Lib.hid sT
  have HT := Lib.hid ht
  have HOK := Lib.hid hok
  have HI := Lib.hid h5
  have HLN := Lib.hid hline
  have HKS := Lib.hid hks
  have HTS := Lib.hid hts
  clear hr sK sT ht hok h5 hline hks hts
  go_enter Tryd.func11, Tryd.ntmps11
  go_upto_region 1 with fail
  obtain ⟨w0, hw0⟩ : ∃ w0 : World, w0 = w.alloc (.cells #[.int .i64 y.op, .int .i64 y.var, .int .i64 y.num, .int .i64 y.const.tag, .string (bs y.const.text), .int .u64 y.const.bits, .string (bs y.const.cls), .string (bs y.const.name), .string (bs y.const.desc), .int .i64 y.to, .slice B5 y.keys.length d5, .slice B6 y.targets.length d6] 47) := ⟨_, rfl⟩
  have J0 : Below w.heap.size w w0 := by rw [hw0]; exact (Below.refl _ _).alloc (Nat.le_refl _) _
  have q1 : w0.heap[w.heap.size]? = some (.cells #[.int .i64 y.op, .int .i64 y.var, .int .i64 y.num, .int .i64 y.const.tag, .string (bs y.const.text), .int .u64 y.const.bits, .string (bs y.const.cls), .string (bs y.const.name), .string (bs y.const.desc), .int .i64 y.to, .slice B5 y.keys.length d5, .slice B6 y.targets.length d6] 47 (0, 0)) := by rw [hw0]; exact heap_alloc_new w _
  rw [← hw0]
  obtain ⟨f1, f2⟩ := blk_facts q1
  have z1 : w.heap.size < w0.heap.size := (Array.getElem?_eq_some_iff.1 q1).1
  have z1d : w.heap.size < w0.drew.heap.size := z1
  have HT1 := Lib.hid (tab_below HT.out J0.drew)
  clear hw0
  refine wp_region_ord 16 (by kernel_rfl) (by kernel_rfl) (fun _ _ d _ _ h => by cases d <;> exact h) ?_
  simp only [List.take_succ_cons, List.take_zero, List.drop_succ_cons, List.drop_zero]
  repeat (first | (refine wpLex_skip rfl ?_; simp only [Act.put, List.setIfInBounds_toArray, List.set_cons_zero, List.set_cons_succ]) | (refine wpLex_fix rfl ?_; intro F hF R hR hne K hK; go_big_quiet_op; first | (go_big_quiet_on; clear hne hR R hF F) | (apply Exists.intro; refine ⟨fun g => ?_, ?_⟩; (((first | (rw [GrE.cell g _ _ z1d]; go_simp; first | exact ⟨rfl, rfl⟩ | rfl) | (go_simp; (repeat (simp only [GrE.cell g _ _ z1d]; go_simp)); first | exact ⟨rfl, rfl⟩ | rfl) | (go_at_call 15; exact GrE.call hR (ints_blk (GrE.blk g (hF.out _ _ _ (by decide) (.inr ⟨rfl, rfl, rfl⟩))) [at_, y.op, y.var, y.num, y.to] _ rfl rfl HI.out (by simp) (tab_below HT1.out (GrE.below g)))) | (go_at_call 10; exact GrE.call hR (value_any y.const.li _ HOK.out (tab_below HT1.out (GrE.below g))))))); go_big_quiet_on; clear hne hR R hF F)) | (apply wpLex_blk rfl; (focus (intro x hx; go_simp; exact ⟨rfl, rfl⟩)); intro B hB; simp only [Act.put, blkVal, List.setIfInBounds_toArray, List.set_cons_zero, List.set_cons_succ]))
  refine wpLex_nil ?_
  intro w1 hw1
  have F1 := hw1.fact 21 _ _ (.inr ⟨rfl, rfl, rfl⟩)
  have q2 := (hw1.below.block _ z1d).trans q1
  have J2 := Lib.hid (Below.after' (Below.drew J0) hw1.below (Nat.le_refl _))
  have zB := F1.1
  have HR := Lib.hid (trow_blk (base := w.heap.size) F1.2 (Nat.le_trans (Nat.le_of_lt z1) zB) [Li.ints [at_, y.op, y.var, y.num, y.to], Li.value y.const.li] 2 rfl rfl (by unfold maxLen; omega))
  have Q2 := Lib.hid q2
  clear hw1 F1 q1 f1 f2 z1 z1d zB
  obtain ⟨g1, g2⟩ := blk_facts q2
  have zq : w.heap.size < w1.heap.size := (Array.getElem?_eq_some_iff.1 q2).1
  clear q2
  go_upto_region 3 with fail
  obtain ⟨M, hM⟩ : ∃ M, M = min y.keys.length y.targets.length := ⟨_, rfl⟩
  rw [show (min (y.keys.length : Int) (y.targets.length : Int)) = ((M : Nat) : Int) by rw [hM]; omega]
  obtain ⟨Z, hZ⟩ : ∃ Z, Z = (y.keys.zip y.targets).map fun k => Lib.itoa k.1 ++ 58 :: Lib.itoa k.2 := ⟨_, rfl⟩
  obtain ⟨L0, hL0⟩ : ∃ z, z = [Li.ints [at_, y.op, y.var, y.num, y.to], Li.value y.const.li] := ⟨_, rfl⟩
  have hZl : Z.length = M := by rw [hZ, List.length_map, List.length_zip, hM]
  have hn0 : L0.length = 2 := by rw [hL0]; rfl
  have HM1 := Lib.hid (show M ≤ y.keys.length by omega)
  have HM2 := Lib.hid (show M ≤ y.targets.length by omega)
  have hMb : M ≤ 2000000 := by omega
  clear hM hmin
  rw [← hL0] at HR
  have HL0 := Lib.hid hL0
  have HZ := Lib.hid hZ
  clear hL0 hZ g1 g2 zq
  go_loopw [5, 29] (fun s5 s29 wr => ∃ i : Nat, i ≤ M ∧ s29 = .int .i64 i ∧ TRow wr w.heap.size s5 (L0 ++ Z.take i) ∧ Below w.heap.size w wr ∧ wr.heap[w.heap.size]? = some (.cells #[.int .i64 y.op, .int .i64 y.var, .int .i64 y.num, .int .i64 y.const.tag, .string (bs y.const.text), .int .u64 y.const.bits, .string (bs y.const.cls), .string (bs y.const.name), .string (bs y.const.desc), .int .i64 y.to, .slice B5 y.keys.length d5, .slice B6 y.targets.length d6] 47 (0, 0))) (fun _ s29 _ => M - (intOf s29).toNat)
  case atStart => exact ⟨0, Nat.zero_le _, rfl, by simpa using HR.out, J2.out, Q2.out⟩
  case round =>
    obtain ⟨i, hil, rfl, hR0, hK0, hX0⟩ := hrel
    have R0 := Lib.hid hR0
    have K0 := Lib.hid hK0
    have X0 := Lib.hid hX0
    by_cases h1 : i < M
    · as_aux_lemma =>
      have hik : i < y.keys.length := Nat.lt_of_lt_of_le h1 HM1.out
      have hit : i < y.targets.length := Nat.lt_of_lt_of_le h1 HM2.out
      obtain ⟨gk, ok, k, rfl, hgk, hk, hck⟩ := HK.out.at_ hik
      obtain ⟨gt, ot, t, rfl, hgt, ht2, hct⟩ := HTG.out.at_ hit
      have hkI := Lib.hid (HKS.out k (List.mem_of_getElem? hk))
      have htI := Lib.hid (HTS.out t (List.mem_of_getElem? ht2))
      have hsn := Lib.hid (show Z.take (i + 1) = Z.take i ++ [Lib.itoa k ++ 58 :: Lib.itoa t] from take_snocI _ _ _ (by rw [HZ.out, List.getElem?_map, zip_at hk ht2]; rfl))
      have hlt : (L0 ++ Z.take i).length ≤ 2000002 := by rw [List.length_append, List.length_take, hn0]; omega
      have ck : wr.cell? ⟨gk, ok + i, none⟩ = some (.int .i64 k) := by rw [World.cell?_of_block (hK0.block gk hgk)]; exact hck
      have ct : wr.cell? ⟨gt, ot + i, none⟩ = some (.int .i64 t) := by rw [World.cell?_of_block (hK0.block gt hgt)]; exact hct
      obtain ⟨g1, g2⟩ := blk_facts hX0
      have z1 : w.heap.size < wr.heap.size := (Array.getElem?_eq_some_iff.1 hX0).1
      have z1d : w.heap.size < wr.drew.heap.size := z1
      have zk : gk < wr.drew.heap.size := Nat.lt_of_lt_of_le hgk hK0.size
      have zt : gt < wr.drew.heap.size := Nat.lt_of_lt_of_le hgt hK0.size
      have HT1 := Lib.hid (tab_below HT.out hK0.drew)
      have HZB := Lib.hid hK0.size
      have i1 : ¬ ((i : Int) < 0) := by omega
      have i2 : (i : Int) < (y.keys.length : Int) := by omega
      have i3 : (i : Int) < (y.targets.length : Int) := by omega
      have hkl : (bs (Lib.itoa k)).size ≤ 20 := by rw [bs_size]; exact itoa_len hkI.out
      have htl : (bs (Lib.itoa t)).size ≤ 20 := by rw [bs_size]; exact itoa_len htI.out
      clear hR0 hK0 hX0 hck hct hk ht2 hgk hgt
      go_upto_region 5 with fail
      refine wp_region_ord 16 (by kernel_rfl) (by kernel_rfl) (fun _ _ d _ _ h => by cases d <;> exact h) ?_
      simp only [List.take_succ_cons, List.take_zero, List.drop_succ_cons, List.drop_zero]
      repeat (first | (refine wpLex_skip rfl ?_; simp only [Act.put, List.setIfInBounds_toArray, List.set_cons_zero, List.set_cons_succ]) | (refine wpLex_fix rfl ?_; intro F hF R hR hne K hK; go_big_quiet_op; first | (go_big_quiet_on; clear hne hR R hF F) | (apply Exists.intro; refine ⟨fun g => ?_, ?_⟩; (((first | (rw [if_neg (by first | omega | (simp; omega))]; exact ⟨rfl, rfl⟩) | (rw [GrE.cell g _ _ z1d]; go_simp; first | exact ⟨rfl, rfl⟩ | rfl) | (rw [GrE.cell g _ _ zk]; go_simp; first | exact ⟨rfl, rfl⟩ | rfl) | (rw [GrE.cell g _ _ zt]; go_simp; first | exact ⟨rfl, rfl⟩ | rfl) | (go_simp; (repeat (simp only [GrE.cell g _ _ z1d]; go_simp)); first | exact ⟨rfl, rfl⟩ | rfl) | (go_at_call 16; first | exact GrE.call hR (itoa_any k _ hkI.out (tab_below HT1.out (GrE.below g))) | exact GrE.call hR (itoa_any t _ htI.out (tab_below HT1.out (GrE.below g))))))); go_big_quiet_on; clear hne hR R hF F)) | (apply wpLex_blk rfl; (focus (intro x hx; go_simp; exact ⟨rfl, rfl⟩)); intro B hB; simp only [Act.put, blkVal, List.setIfInBounds_toArray, List.set_cons_zero, List.set_cons_succ]))
      refine wpLex_nil ?_
      intro w1 hw1
      have F1 := hw1.fact 47 _ _ (.inr ⟨rfl, rfl, rfl⟩)
      rw [key_text] at F1
      have zz : w.heap.size ≤ w1.heap.size := Nat.le_trans HZB.out hw1.below.size
      have R1 := Lib.hid (R0.out.grow (Below.drew (Below.refl _ _) |>.trans hw1.below))
      have K1 := Lib.hid (K0.out.trans (((Below.refl _ _).drew.trans hw1.below).mono HZB.out))
      have X1 := Lib.hid ((((Below.refl _ _).drew.trans hw1.below).block _ z1).trans X0.out)
      have FB := Lib.hid F1.2
      clear hw1 F1 g1 g2 z1d zk zt ck ct i1 i2 i3 z1 hkl htl
      go_wp2_with (at_builtin; refine wpList_appS rfl _ _ rfl w.heap.size u5 _ rfl R1.out _ (Lib.itoa k ++ 58 :: Lib.itoa t) _ _ rfl FB.out (by omega) zz ?_; intro v2 w2 hr2 hh2; have R2 := Lib.hid hr2; have K2 := Lib.hid (K1.out.trans (hh2.below zz (fun k hk => (World.ownsRow.lt R1.out k hk).1))); have X2 := Lib.hid ((hh2.1.block _ (Array.getElem?_eq_some_iff.1 X1.out).1 (own_ne R1.out X1.out (by decide))).trans X1.out); clear hr2 hh2)
      refine ⟨⟨i + 1, h1, rfl, ?_, K2.out, X2.out⟩, less_next h1⟩
      rw [hsn.out, ← List.append_assoc]
      exact R2.out
    · as_aux_lemma =>
      have hie : i = M := by omega
      subst hie
      rw [List.take_of_length_le (by omega)] at hR0
      have HE := Lib.hid (show L0 ++ Z = Li.insL at_ y by rw [HL0.out, HZ.out]; rfl)
      rw [HE.out] at hR0
      have hnl : (Li.insL at_ y).length ≤ 1000000000 := by rw [← HE.out, List.length_append]; omega
      have CL := Lib.hid (line_row hR0 hnl HLN.out)
      clear hR0 hK0 hX0
      go_wp2_with fail
      refine CL.out.mono ?_
      rintro e w3 ⟨rfl, hb3⟩
      have J := Lib.hid (K0.out.trans (hb3.mono K0.out.size))
      clear hb3 CL
      go_wp2_with fail
      go_ret
      exact ⟨rfl, J.out⟩
end Go.Proofs.YtpjafbinlklojaaDoor

/- The walks of the document's layer 35: an instruction's line. Printed by mk_rins.py. -/
namespace Go.Proofs.YtpjafbinlklojaaDoor
open Go.RowKit Go.Deep
def Ri.keyF (k : Int × Int) : List UInt8 := Ri.num [k.1] ++ 58 :: Lib.itoa k.2
theorem keys_len : ∀ l : List (Int × Int), (∀ k ∈ l, I64 k.1 ∧ I64 k.2) → (l.flatMap Ri.keyF).length ≤ 42 * l.length
  | [], _ => Nat.le_refl _
  | a :: l, h => by
    have h1 := itoa_len (h a (List.mem_cons_self ..)).1
    have h2 := itoa_len (h a (List.mem_cons_self ..)).2
    have h3 := keys_len l (fun k hk => h k (List.mem_cons_of_mem _ hk))
    simp only [List.flatMap_cons, List.length_append, Ri.keyF, Ri.num, List.length_cons, List.flatMap_nil, List.append_nil]
    omega
theorem key_snoc {l : List (Int × Int)} {i : Nat} {k : Int × Int} (h : l[i]? = some k) : (l.take (i + 1)).flatMap Ri.keyF = (l.take i).flatMap Ri.keyF ++ Ri.keyF k := by
  rw [take_snocI _ _ _ h, List.flatMap_append]
  simp
theorem rkey_text (a : List UInt8) (k t : Int) : bs a ++ bs (Ri.num [k]) ++ (⟨#[58]⟩ : ByteArray) ++ bs (Lib.itoa t) = bs (a ++ Ri.keyF (k, t)) := by
  rw [show (⟨#[58]⟩ : ByteArray) = bs [58] from rfl, bs_append, bs_append, bs_append]
  simp [Ri.keyF]
set_option maxHeartbeats 8000000 in
set_option maxRecDepth 100000 in
theorem rins_any (w : World) (at_ : Int) (y : Cins) (cs : List Value) (hr : Cins.rd w cs y) (hg : y.good) (hb : y.blk ≤ 2000000) (hat : I64 at_) :
    Calls Tryd.prog 36 #[.int .i64 at_, .agg cs.toArray] w fun e w' => e = .returned (.string (bs (Ri.ins at_ y))) ∧ Below w.heap.size w w' := by
  obtain ⟨hok, h5, _, hmin, hks, hts, hkn, htn⟩ := ins_ok at_ hg hb hat
  have h4 : ∀ n ∈ [y.op, y.var, y.num, y.to], I64 n := fun n hn => h5 n (List.mem_cons_of_mem _ hn)
  have hnl := rnum_len h4
  have hvl := value_len _ hok
  have hal := itoa_len hat
  obtain ⟨B5, d5, B6, d6, rfl, ⟨sK, _⟩, ⟨sT, _⟩⟩ := Cins.leafs hr
  have HK := Lib.hid sK
  have HTG := Lib.hid sT
  have HOK := Lib.hid hok
  have HI := Lib.hid h4
  have HKS := Lib.hid hks
  have HTS := Lib.hid hts
  clear hr sK sT hok h5 h4 hks hts hmin
  obtain ⟨A0, hA0⟩ : ∃ z, z = Lib.itoa at_ ++ Ri.num [y.op, y.var, y.num, y.to] ++ 32 :: Li.value y.const.li := ⟨_, rfl⟩
  have ha0 : A0.length ≤ 300000200 := by rw [hA0]; simp only [List.length_append, List.length_cons, List.length_nil] at hnl ⊢; omega
  have za : (bs (Lib.itoa at_)).size ≤ 20 := by rw [bs_size]; exact hal
  have zn : (bs (Ri.num [y.op, y.var, y.num, y.to])).size ≤ 84 := by rw [bs_size]; exact hnl
  have zv : (bs (Li.value y.const.li)).size ≤ 300000000 := by rw [bs_size]; exact hvl
  have hcat := Lib.hid (show bs (Lib.itoa at_) ++ bs (Ri.num [y.op, y.var, y.num, y.to]) ++ (⟨#[32]⟩ : ByteArray) ++ bs (Li.value y.const.li) = bs A0 by rw [show (⟨#[32]⟩ : ByteArray) = bs [32] from rfl, bs_append, bs_append, bs_append, hA0]; simp)
  have HA0 := Lib.hid hA0
  clear hA0 hnl hvl hal
  go_enter Tryd.func36, Tryd.ntmps36
  go_upto_region 1 with fail
  obtain ⟨w0, hw0⟩ : ∃ w0 : World, w0 = w.alloc (.cells #[.int .i64 y.op, .int .i64 y.var, .int .i64 y.num, .int .i64 y.const.tag, .string (bs y.const.text), .int .u64 y.const.bits, .string (bs y.const.cls), .string (bs y.const.name), .string (bs y.const.desc), .int .i64 y.to, .slice B5 y.keys.length d5, .slice B6 y.targets.length d6] 47) := ⟨_, rfl⟩
  have J0 : Below w.heap.size w w0 := by rw [hw0]; exact (Below.refl _ _).alloc (Nat.le_refl _) _
  have q1 : w0.heap[w.heap.size]? = some (.cells #[.int .i64 y.op, .int .i64 y.var, .int .i64 y.num, .int .i64 y.const.tag, .string (bs y.const.text), .int .u64 y.const.bits, .string (bs y.const.cls), .string (bs y.const.name), .string (bs y.const.desc), .int .i64 y.to, .slice B5 y.keys.length d5, .slice B6 y.targets.length d6] 47 (0, 0)) := by rw [hw0]; exact heap_alloc_new w _
  rw [← hw0]
  obtain ⟨f1, f2⟩ := blk_facts q1
  have z1 : w.heap.size < w0.heap.size := (Array.getElem?_eq_some_iff.1 q1).1
  have z1d : w.heap.size < w0.drew.heap.size := z1
  clear hw0
  refine wp_region_ord 19 (by kernel_rfl) (by kernel_rfl) (fun _ _ d _ _ h => by cases d <;> exact h) ?_
  simp only [List.take_succ_cons, List.take_zero, List.drop_succ_cons, List.drop_zero]
  repeat (first | (refine wpLex_skip rfl ?_; simp only [Act.put, List.setIfInBounds_toArray, List.set_cons_zero, List.set_cons_succ]) | (refine wpLex_fix rfl ?_; intro F hF R hR hne K hK; go_big_quiet_op; first | (go_big_quiet_on; clear hne hR R hF F) | (apply Exists.intro; refine ⟨fun g => ?_, ?_⟩; (((first | (rw [if_neg (by first | omega | (simp; omega))]; exact ⟨rfl, rfl⟩) | (rw [GrE.cell g _ _ z1d]; go_simp; first | exact ⟨rfl, rfl⟩ | rfl) | (go_simp; (repeat (simp only [GrE.cell g _ _ z1d]; go_simp)); first | exact ⟨rfl, rfl⟩ | rfl) | (go_at_call 34; exact GrE.call hR (number_any at_ _ hat)) | (go_at_call 21; exact GrE.call hR (rnum_blk (GrE.blk g (hF.out _ _ _ (by decide) (.inr ⟨rfl, rfl, rfl⟩))) [y.op, y.var, y.num, y.to] _ rfl rfl HI.out (by simp))) | (go_at_call 35; exact GrE.call hR (rvalue_any y.const.li _ HOK.out))))); go_big_quiet_on; clear hne hR R hF F)) | (apply wpLex_blk rfl; (focus (intro x hx; go_simp; exact ⟨rfl, rfl⟩)); intro B hB; simp only [Act.put, blkVal, List.setIfInBounds_toArray, List.set_cons_zero, List.set_cons_succ]))
  refine wpLex_nil ?_
  intro w1 hw1
  have q2 := (hw1.below.block _ z1d).trans q1
  have J2 := Lib.hid (Below.after' (Below.drew J0) hw1.below (Nat.le_refl _))
  have Q2 := Lib.hid q2
  rw [hcat.out]
  clear hw1 q1 f1 f2 z1 z1d q2 hcat J0 za zn zv
  go_upto_region 3 with fail
  obtain ⟨Z, hZ⟩ : ∃ Z, Z = y.keys.zip y.targets := ⟨_, rfl⟩
  have hZl : Z.length = min y.keys.length y.targets.length := by rw [hZ, List.length_zip]
  have HKL := Lib.hid (fun (i : Nat) => keys_len (Z.take i) (fun k hk => by rw [hZ] at hk; have := List.mem_of_mem_take hk; exact ⟨HKS.out _ (List.of_mem_zip this).1, HTS.out _ (List.of_mem_zip this).2⟩))
  have HZ := Lib.hid hZ
  have HZL := Lib.hid hZl
  clear hZ hZl
  go_loopw [5, 6] (fun s5 s6 wr => ∃ i : Nat, i ≤ Z.length ∧ s6 = .int .i64 i ∧ s5 = .string (bs (A0 ++ (Z.take i).flatMap Ri.keyF)) ∧ Below w.heap.size w wr ∧ wr.heap[w.heap.size]? = some (.cells #[.int .i64 y.op, .int .i64 y.var, .int .i64 y.num, .int .i64 y.const.tag, .string (bs y.const.text), .int .u64 y.const.bits, .string (bs y.const.cls), .string (bs y.const.name), .string (bs y.const.desc), .int .i64 y.to, .slice B5 y.keys.length d5, .slice B6 y.targets.length d6] 47 (0, 0))) (fun _ s6 _ => Z.length - (intOf s6).toNat)
  case atStart => exact ⟨0, Nat.zero_le _, rfl, by simp, J2.out, Q2.out⟩
  case round =>
    obtain ⟨i, hil, rfl, rfl, hK0, hX0⟩ := hrel
    have K0 := Lib.hid hK0
    have X0 := Lib.hid hX0
    obtain ⟨g1, g2⟩ := blk_facts hX0
    have zq : w.heap.size < wr.heap.size := (Array.getElem?_eq_some_iff.1 hX0).1
    by_cases h1 : i < Z.length
    · as_aux_lemma =>
      have hik : i < y.keys.length := by have := HZL.out; omega
      have hit : i < y.targets.length := by have := HZL.out; omega
      obtain ⟨gk, ok, k, rfl, hgk, hk, hck⟩ := HK.out.at_ hik
      obtain ⟨gt, ot, t, rfl, hgt, ht2, hct⟩ := HTG.out.at_ hit
      have hkI := Lib.hid (HKS.out k (List.mem_of_getElem? hk))
      have htI := Lib.hid (HTS.out t (List.mem_of_getElem? ht2))
      have hk1 : ∀ n ∈ [k], I64 n := fun n hn => by rw [List.mem_singleton.1 hn]; exact hkI.out
      have hsn := Lib.hid (key_snoc (l := Z) (i := i) (k := (k, t)) (by rw [HZ.out]; exact zip_at hk ht2))
      have ck : wr.cell? ⟨gk, ok + i, none⟩ = some (.int .i64 k) := by rw [World.cell?_of_block (hK0.block gk hgk)]; exact hck
      have ct : wr.cell? ⟨gt, ot + i, none⟩ = some (.int .i64 t) := by rw [World.cell?_of_block (hK0.block gt hgt)]; exact hct
      have z1d : w.heap.size < wr.drew.heap.size := zq
      have zk : gk < wr.drew.heap.size := Nat.lt_of_lt_of_le hgk hK0.size
      have zt : gt < wr.drew.heap.size := Nat.lt_of_lt_of_le hgt hK0.size
      have HZB := Lib.hid hK0.size
      have hzl := HKL.out i
      rw [List.length_take] at hzl
      have zA : (bs (A0 ++ (Z.take i).flatMap Ri.keyF)).size ≤ 400000000 := by rw [bs_size, List.length_append]; have := HZL.out; omega
      have zk2 : (bs (Ri.num [k])).size ≤ 21 := by rw [bs_size]; exact rnum_len hk1
      have zt2 : (bs (Lib.itoa t)).size ≤ 20 := by rw [bs_size]; exact itoa_len htI.out
      have HK1 := Lib.hid hk1
      have hcat := Lib.hid (show bs (A0 ++ (Z.take i).flatMap Ri.keyF) ++ bs (Ri.num [k]) ++ (⟨#[58]⟩ : ByteArray) ++ bs (Lib.itoa t) = bs (A0 ++ (Z.take (i + 1)).flatMap Ri.keyF) by rw [rkey_text, hsn.out, List.append_assoc])
      have i1 : ¬ ((i : Int) < 0) := by omega
      have i2 : (i : Int) < (y.keys.length : Int) := by omega
      have i3 : (i : Int) < (y.targets.length : Int) := by omega
      have b2 : decide (i < y.keys.length) = true := decide_eq_true hik
      have b3 : decide (i < y.targets.length) = true := decide_eq_true hit
      generalize hAi : A0 ++ (Z.take i).flatMap Ri.keyF = Ai at *
      clear hK0 hX0 hck hct hk ht2 hgk hgt hk1 hzl hAi
      go_upto_region 5 with fail
      refine wp_region_ord 18 (by kernel_rfl) (by kernel_rfl) (fun _ _ d _ _ h => by cases d <;> exact h) ?_
      simp only [List.take_succ_cons, List.take_zero, List.drop_succ_cons, List.drop_zero]
      repeat (first | (refine wpLex_skip rfl ?_; simp only [Act.put, List.setIfInBounds_toArray, List.set_cons_zero, List.set_cons_succ]) | (refine wpLex_fix rfl ?_; intro F hF R hR hne K hK; go_big_quiet_op; first | (go_big_quiet_on; clear hne hR R hF F) | (apply Exists.intro; refine ⟨fun g => ?_, ?_⟩; (((first | (rw [if_neg (by first | omega | (simp; omega))]; exact ⟨rfl, rfl⟩) | (rw [GrE.cell g _ _ z1d]; go_simp; first | exact ⟨rfl, rfl⟩ | rfl) | (rw [GrE.cell g _ _ zk]; go_simp; first | exact ⟨rfl, rfl⟩ | rfl) | (rw [GrE.cell g _ _ zt]; go_simp; first | exact ⟨rfl, rfl⟩ | rfl) | (go_simp; (repeat (simp only [GrE.cell g _ _ z1d]; go_simp)); first | exact ⟨rfl, rfl⟩ | rfl) | (go_at_call 34; exact GrE.call hR (number_any t _ htI.out)) | (go_at_call 21; exact GrE.call hR (rnum_blk (GrE.blk g (hF.out _ _ _ (by decide) (.inr ⟨rfl, rfl, rfl⟩))) [k] _ rfl rfl HK1.out (by simp)))))); go_big_quiet_on; clear hne hR R hF F)) | (apply wpLex_blk rfl; (focus (intro x hx; go_simp; exact ⟨rfl, rfl⟩)); intro B hB; simp only [Act.put, blkVal, List.setIfInBounds_toArray, List.set_cons_zero, List.set_cons_succ]))
      refine wpLex_nil ?_
      intro w1 hw1
      have kk := (Below.refl wr.heap.size wr).drew.trans hw1.below
      have K1 := Lib.hid (K0.out.trans (kk.mono HZB.out))
      have X1 := Lib.hid ((kk.block _ zq).trans X0.out)
      rw [hcat.out]
      clear hw1 kk g1 g2 z1d zk zt ck ct i1 i2 i3 b2 b3 zq zA zk2 zt2 hcat
      go_wp2_with fail
      exact ⟨⟨i + 1, h1, rfl, rfl, K1.out, X1.out⟩, less_next h1⟩
    · as_aux_lemma =>
      have hie : i = Z.length := by omega
      have HE := Lib.hid (show A0 ++ (Z.take i).flatMap Ri.keyF = Ri.ins at_ y by rw [hie, List.take_length, HA0.out, HZ.out]; unfold Ri.ins; rfl)
      have hkt := Lib.hid (show i < y.keys.length → ¬ i < y.targets.length by have := HZL.out; omega)
      clear hK0 hX0 hie
      by_cases hk : i < y.keys.length
      · have b2 : decide (i < y.keys.length) = true := decide_eq_true hk
        have b3 : decide (i < y.targets.length) = false := decide_eq_false (hkt.out hk)
        go_wp2_with fail
        go_ret
        exact ⟨by rw [← HE.out]; rfl, K0.out⟩
      · have b2 : decide (i < y.keys.length) = false := decide_eq_false hk
        go_wp2_with fail
        go_ret
        exact ⟨by rw [← HE.out]; rfl, K0.out⟩
end Go.Proofs.YtpjafbinlklojaaDoor

/- Layer 35: a member's line, whole. Printed by mk_mbr.py. -/
namespace Go.Proofs.YtpjafbinlklojaaDoor
open Go.RowKit Go.Deep

theorem member_ok {m : Mbr} (kind : List UInt8) (hk : kind.length ≤ 100) (hg : m.good) (hb : m.blk ≤ 2000000) : I64 m.flags ∧ m.name.length ≤ 100000000 ∧ m.desc.length ≤ 100000000 ∧ m.attrs.good ∧ m.attrs.blk ≤ 2000000 ∧ (Li.line [kind, Lib.itoa m.flags, Li.or m.name, Li.or m.desc, Li.beside m.attrs]).length ≤ 1000000000 := by
  have h1 := itoa_len hg.1
  have h2 := beside_len m.attrs hg.2.2.2
  have h3 := Li.or_len m.name
  have h4 := Li.or_len m.desc
  unfold Mbr.blk at hb
  refine ⟨hg.1, by omega, by omega, hg.2.2.2, by omega, Nat.le_trans (line_sum _) ?_⟩
  simp only [List.map_cons, List.map_nil, List.sum_cons, List.sum_nil]
  omega
set_option maxHeartbeats 8000000 in
set_option maxRecDepth 100000 in
theorem member_any (w : World) (kind : List UInt8) (hkl : kind.length ≤ 100) (y : Mbr) (cs : List Value) (hr : Mbr.rd w cs y) (hg : y.good) (hb : y.blk ≤ 2000000) (ht : TabP w) :
    Calls Tryd.prog 18 #[.string (bs kind), .agg cs.toArray] w fun e w' => e = .returned (.string (bs (Li.member kind y))) ∧ Below w.heap.size w w' := by
  obtain ⟨hfl, hnm, hds, hag, hab, hline⟩ := member_ok kind hkl hg hb
  have HAR := Lib.hid (fun w' (k : Below w.heap.size w w') => Atr.rd_grow (show Atr.rd w ((cs.drop 3).take 18) y.attrs from hr.2.2.2.2) k)
  obtain ⟨Ma0, mc0, Ma1, mc1, Ma2, mc2, Ma3, mc3, Ma4, mc4, Ma5, mc5, rfl, _⟩ := Mbr.leafs hr
  have HT := Lib.hid ht
  have HLN := Lib.hid hline
  clear hr ht hline
  go_enter Tryd.func18, Tryd.ntmps18
  go_upto_region 1 with fail
  obtain ⟨w0, hw0⟩ : ∃ w0 : World, w0 = w.alloc (.cells #[.int .i64 y.flags, .string (bs y.name), .string (bs y.desc), .int .i64 y.attrs.has, .int .i64 y.attrs.code.stack, .int .i64 y.attrs.code.locals, .slice Ma0 y.attrs.code.ops.length mc0, .slice Ma1 y.attrs.code.handlers.length mc1, .int .i64 y.attrs.code.has, .slice Ma2 y.attrs.code.lines.length mc2, .slice Ma3 y.attrs.code.slots.length mc3, .int .i64 y.attrs.value.tag, .string (bs y.attrs.value.text), .int .u64 y.attrs.value.bits, .string (bs y.attrs.value.cls), .string (bs y.attrs.value.name), .string (bs y.attrs.value.desc), .slice Ma4 y.attrs.throws.length mc4, .slice Ma5 y.attrs.inners.length mc5, .string (bs y.attrs.signature), .string (bs y.attrs.source)] 59) := ⟨_, rfl⟩
  have J0 : Below w.heap.size w w0 := by rw [hw0]; exact (Below.refl _ _).alloc (Nat.le_refl _) _
  have q1 : w0.heap[w.heap.size]? = some (.cells #[.int .i64 y.flags, .string (bs y.name), .string (bs y.desc), .int .i64 y.attrs.has, .int .i64 y.attrs.code.stack, .int .i64 y.attrs.code.locals, .slice Ma0 y.attrs.code.ops.length mc0, .slice Ma1 y.attrs.code.handlers.length mc1, .int .i64 y.attrs.code.has, .slice Ma2 y.attrs.code.lines.length mc2, .slice Ma3 y.attrs.code.slots.length mc3, .int .i64 y.attrs.value.tag, .string (bs y.attrs.value.text), .int .u64 y.attrs.value.bits, .string (bs y.attrs.value.cls), .string (bs y.attrs.value.name), .string (bs y.attrs.value.desc), .slice Ma4 y.attrs.throws.length mc4, .slice Ma5 y.attrs.inners.length mc5, .string (bs y.attrs.signature), .string (bs y.attrs.source)] 59 (0, 0)) := by rw [hw0]; exact heap_alloc_new w _
  rw [← hw0]
  obtain ⟨f1, f2⟩ := blk_facts q1
  have z1 : w.heap.size < w0.heap.size := (Array.getElem?_eq_some_iff.1 q1).1
  have z1d : w.heap.size < w0.drew.heap.size := z1
  have HCA := Lib.hid (show CellsAt w0.drew w.heap.size 3 [.int .i64 y.attrs.has, .int .i64 y.attrs.code.stack, .int .i64 y.attrs.code.locals, .slice Ma0 y.attrs.code.ops.length mc0, .slice Ma1 y.attrs.code.handlers.length mc1, .int .i64 y.attrs.code.has, .slice Ma2 y.attrs.code.lines.length mc2, .slice Ma3 y.attrs.code.slots.length mc3, .int .i64 y.attrs.value.tag, .string (bs y.attrs.value.text), .int .u64 y.attrs.value.bits, .string (bs y.attrs.value.cls), .string (bs y.attrs.value.name), .string (bs y.attrs.value.desc), .slice Ma4 y.attrs.throws.length mc4, .slice Ma5 y.attrs.inners.length mc5, .string (bs y.attrs.signature), .string (bs y.attrs.source)] from cellsAt_block (w := w0.drew) q1 3 18)
  have hcl18 : (Tryd.prog.info? 35).map (·.size) = some 18 := by kernel_rfl
  have HT1 := Lib.hid (tab_below HT.out J0.drew)
  have HAR1 := Lib.hid (HAR.out w0.drew J0.drew)
  clear hw0
  refine wp_region_ord 16 (by kernel_rfl) (by kernel_rfl) (fun _ _ d _ _ h => by cases d <;> exact h) ?_
  simp only [List.take_succ_cons, List.take_zero, List.drop_succ_cons, List.drop_zero]
  repeat (first | ((refine wpLex_load rfl 35 _ rfl w.heap.size 3 rfl _ HCA.out z1d _ Tryd.underlying35 rfl hcl18 ?_); simp only [Act.put, List.setIfInBounds_toArray, List.set_cons_zero, List.set_cons_succ]) | (refine wpLex_skip rfl ?_; simp only [Act.put, List.setIfInBounds_toArray, List.set_cons_zero, List.set_cons_succ]) | (refine wpLex_fix rfl ?_; intro F hF R hR hne K hK; go_big_quiet_op; first | (go_big_quiet_on; clear hne hR R hF F) | (apply Exists.intro; refine ⟨fun g => ?_, ?_⟩; (((first | (rw [GrE.cell g _ _ z1d]; go_simp; first | exact ⟨rfl, rfl⟩ | rfl) | (go_simp; (repeat (simp only [GrE.cell g _ _ z1d]; go_simp)); first | exact ⟨rfl, rfl⟩ | rfl) | (go_at_call 13; exact GrE.call hR (line_blk (GrE.blk g (hF.out _ _ _ (by decide) (.inr ⟨rfl, rfl, rfl⟩))) [kind, Lib.itoa y.flags, Li.or y.name, Li.or y.desc, Li.beside y.attrs] _ rfl rfl (by simp) HLN.out)) | (go_at_call 16; exact GrE.call hR (itoa_any y.flags _ hfl (tab_below HT1.out (GrE.below g)))) | (go_at_call 14; first | exact GrE.call hR (or_any y.name _ hnm) | exact GrE.call hR (or_any y.desc _ hds)) | (go_at_call 17; exact GrE.call hR (beside_any _ y.attrs _ (Atr.rd_grow HAR1.out (GrE.below g)) hag hab (tab_below HT1.out (GrE.below g))))))); go_big_quiet_on; clear hne hR R hF F)) | (apply wpLex_blk rfl; (focus (intro x hx; go_simp; exact ⟨rfl, rfl⟩)); intro B hB; simp only [Act.put, blkVal, List.setIfInBounds_toArray, List.set_cons_zero, List.set_cons_succ]))
  refine wpLex_nil ?_
  intro w1 hw1
  have J2 := Lib.hid (Below.after' (Below.drew J0) hw1.below (Nat.le_refl _))
  clear hw1 q1 f1 f2 z1 z1d
  go_wp2_with fail
  go_ret
  exact ⟨rfl, J2.out⟩
end Go.Proofs.YtpjafbinlklojaaDoor

/- Layer 35: a code's lines, whole. Printed by mk_lcode.py. -/
namespace Go.Proofs.YtpjafbinlklojaaDoor
open Go.RowKit Go.Deep

theorem ins_one {w : World} (cs : List Value) (y : Cins) (h : Cins.rd w cs y) : ∀ u ∈ cs, u.oneCell' = true := by
  obtain ⟨A0, c0, A1, c1, rfl, _⟩ := Cins.leafs h
  intro u hu
  simp only [List.mem_cons, List.not_mem_nil, or_false] at hu
  rcases hu with rfl | rfl | rfl | rfl | rfl | rfl | rfl | rfl | rfl | rfl | rfl | rfl <;> rfl
theorem hnd_one {w : World} (cs : List Value) (y : Hnd) (h : Hnd.rd w cs y) : ∀ u ∈ cs, u.oneCell' = true := by
  obtain rfl := Hnd.leafs h
  intro u hu
  simp only [List.mem_cons, List.not_mem_nil, or_false] at hu
  rcases hu with rfl | rfl | rfl | rfl <;> rfl
theorem lno_one {w : World} (cs : List Value) (y : Lno) (h : Lno.rd w cs y) : ∀ u ∈ cs, u.oneCell' = true := by
  obtain rfl := Lno.leafs h
  intro u hu
  simp only [List.mem_cons, List.not_mem_nil, or_false] at hu
  rcases hu with rfl | rfl <;> rfl
theorem slt_one {w : World} (cs : List Value) (y : Slt) (h : Slt.rd w cs y) : ∀ u ∈ cs, u.oneCell' = true := by
  obtain rfl := Slt.leafs h
  intro u hu
  simp only [List.mem_cons, List.not_mem_nil, or_false] at hu
  rcases hu with rfl | rfl | rfl | rfl | rfl <;> rfl
theorem opsFrom_app : ∀ (k : Nat) (xs : List Cins) (x : Cins), Li.opsFrom k (xs ++ [x]) = Li.opsFrom k xs ++ [Li.ins ((k + xs.length : Nat) : Int) x]
  | k, [], x => by simp [Li.opsFrom]
  | k, a :: xs, x => by
    rw [List.cons_append, Li.opsFrom, opsFrom_app (k + 1) xs x, Li.opsFrom, List.cons_append, List.length_cons, show k + 1 + xs.length = k + (xs.length + 1) by omega]
theorem opsFrom_snoc {xs : List Cins} {i : Nat} {x : Cins} (h : xs[i]? = some x) : Li.opsFrom 0 (xs.take (i + 1)) = Li.opsFrom 0 (xs.take i) ++ [Li.ins (i : Int) x] := by
  obtain ⟨h1, rfl⟩ := List.getElem?_eq_some_iff.1 h
  rw [take_snocI _ _ _ h, opsFrom_app, List.length_take, Nat.min_eq_left (Nat.le_of_lt h1), Nat.zero_add]
theorem opsFrom_len : ∀ (k : Nat) (xs : List Cins), (Li.opsFrom k xs).length = xs.length
  | _, [] => rfl
  | k, a :: xs => by rw [Li.opsFrom, List.length_cons, opsFrom_len, List.length_cons]
theorem map_snoc {α β : Type} (f : α → β) {xs : List α} {i : Nat} {x : α} (h : xs[i]? = some x) : (xs.take (i + 1)).map f = (xs.take i).map f ++ [f x] := by
  rw [take_snocI _ _ _ h, List.map_append]
  rfl
/-- What a line of a code asks. -/
def HndOk (x : Hnd) : Prop := (∀ n ∈ [x.from_, x.till, x.to], I64 n) ∧ x.kind.length ≤ 100000000 ∧ (Li.hnd x).length ≤ 1000000000
def LnoOk (x : Lno) : Prop := (∀ n ∈ [x.at_, x.line], I64 n) ∧ (Li.lno x).length ≤ 1000000000
def SltOk (x : Slt) : Prop := (∀ n ∈ [x.from_, x.till, x.var], I64 n) ∧ x.name.length ≤ 100000000 ∧ x.desc.length ≤ 100000000 ∧ (Li.slt x).length ≤ 1000000000
theorem code_ok {y : Cde} (hg : y.good) (hb : y.blk ≤ 2000000) : (∀ n ∈ [y.stack, y.locals], I64 n) ∧ (Li.line [[99, 111, 100, 101], Li.ints [y.stack, y.locals]]).length ≤ 1000000000 ∧ (∀ x ∈ y.ops, x.good ∧ x.blk ≤ 2000000) ∧ (∀ x ∈ y.handlers, HndOk x) ∧ (∀ x ∈ y.lines, LnoOk x) ∧ (∀ x ∈ y.slots, SltOk x) ∧ y.ops.length ≤ 2000000 ∧ y.handlers.length ≤ 2000000 ∧ y.lines.length ≤ 2000000 ∧ y.slots.length ≤ 2000000 := by
  have h2 : ∀ n ∈ [y.stack, y.locals], I64 n := fun n hn => by
    simp only [List.mem_cons, List.not_mem_nil, or_false] at hn
    rcases hn with rfl | rfl
    · exact hg.1
    · exact hg.2.1
  have hi := ints_len2 h2
  simp only [List.length_cons, List.length_nil] at hi
  unfold Cde.blk at hb
  have o0 : ∀ xs : List Cins, xs.length ≤ (xs.map Cins.blk).sum := fun xs => by
    induction xs with
    | nil => exact Nat.le_refl _
    | cons a xs ih => simp only [List.map_cons, List.sum_cons, List.length_cons]; unfold Cins.blk; unfold Cins.blk at ih; omega
  have o1 : ∀ xs : List Hnd, xs.length ≤ (xs.map Hnd.blk).sum := fun xs => by
    induction xs with
    | nil => exact Nat.le_refl _
    | cons a xs ih => simp only [List.map_cons, List.sum_cons, List.length_cons]; unfold Hnd.blk; unfold Hnd.blk at ih; omega
  have o2 : ∀ xs : List Lno, xs.length ≤ (xs.map Lno.blk).sum := fun xs => by
    induction xs with
    | nil => exact Nat.le_refl _
    | cons a xs ih => simp only [List.map_cons, List.sum_cons, List.length_cons]; unfold Lno.blk; unfold Lno.blk at ih; omega
  have o3 : ∀ xs : List Slt, xs.length ≤ (xs.map Slt.blk).sum := fun xs => by
    induction xs with
    | nil => exact Nat.le_refl _
    | cons a xs ih => simp only [List.map_cons, List.sum_cons, List.length_cons]; unfold Slt.blk; unfold Slt.blk at ih; omega
  have p0 := o0 y.ops
  have p1 := o1 y.handlers
  have p2 := o2 y.lines
  have p3 := o3 y.slots
  refine ⟨h2, ?_, fun x hx => ⟨hg.2.2.1.2 x hx, ?_⟩, fun x hx => ?_, fun x hx => ?_, fun x hx => ?_, by omega, by omega, by omega, by omega⟩
  · refine Nat.le_trans (line_sum _) ?_
    simp only [List.map_cons, List.map_nil, List.sum_cons, List.sum_nil, List.length_cons, List.length_nil]
    omega
  · have := mem_sum Cins.blk hx
    omega
  · have := mem_sum Hnd.blk hx
    have hh := hg.2.2.2.1.2 x hx
    have hbx : x.blk ≤ 2000000 := by omega
    unfold Hnd.blk at hbx
    have h3 : ∀ n ∈ [x.from_, x.till, x.to], I64 n := fun n hn => by
      simp only [List.mem_cons, List.not_mem_nil, or_false] at hn
      rcases hn with rfl | rfl | rfl
      · exact hh.1
      · exact hh.2.1
      · exact hh.2.2.1
    have hi3 := ints_len2 h3
    have ho := Li.or_len x.kind
    simp only [List.length_cons, List.length_nil] at hi3
    refine ⟨h3, by omega, Nat.le_trans (line_sum _) ?_⟩
    simp only [List.map_cons, List.map_nil, List.sum_cons, List.sum_nil, List.length_cons, List.length_nil]
    omega
  · have hh := hg.2.2.2.2.2.1.2 x hx
    have h3 : ∀ n ∈ [x.at_, x.line], I64 n := fun n hn => by
      simp only [List.mem_cons, List.not_mem_nil, or_false] at hn
      rcases hn with rfl | rfl
      · exact hh.1
      · exact hh.2
    have hi3 := ints_len2 h3
    simp only [List.length_cons, List.length_nil] at hi3
    refine ⟨h3, Nat.le_trans (line_sum _) ?_⟩
    simp only [List.map_cons, List.map_nil, List.sum_cons, List.sum_nil, List.length_cons, List.length_nil]
    omega
  · have := mem_sum Slt.blk hx
    have hh := hg.2.2.2.2.2.2.2 x hx
    have hbx : x.blk ≤ 2000000 := by omega
    unfold Slt.blk at hbx
    have h3 : ∀ n ∈ [x.from_, x.till, x.var], I64 n := fun n hn => by
      simp only [List.mem_cons, List.not_mem_nil, or_false] at hn
      rcases hn with rfl | rfl | rfl
      · exact hh.1
      · exact hh.2.1
      · exact hh.2.2.2.2
    have hi3 := ints_len2 h3
    have ho := Li.or_len x.name
    have ho2 := Li.or_len x.desc
    simp only [List.length_cons, List.length_nil] at hi3
    refine ⟨h3, by omega, by omega, Nat.le_trans (line_sum _) ?_⟩
    simp only [List.map_cons, List.map_nil, List.sum_cons, List.sum_nil, List.length_cons, List.length_nil]
    omega
set_option maxHeartbeats 16000000 in
set_option maxRecDepth 100000 in
theorem code_any (w : World) (y : Cde) (cs : List Value) (hr : Cde.rd w cs y) (hg : y.good) (hb : y.blk ≤ 2000000) (ht : TabP w) :
    Calls Tryd.prog 19 #[.agg cs.toArray] w fun e w' => ∃ v, e = .returned v ∧ TRow w' w.heap.size v (Li.code y) ∧ Below w.heap.size w w' := by
  obtain ⟨h2, hln, hgo, hgh, hgl, hgs, hn1, hn2, hn3, hn4⟩ := code_ok hg hb
  obtain ⟨A2, c2, A3, c3, A5, c5, A6, c6, rfl, ⟨s2, _⟩, ⟨s3, _⟩, ⟨s5, _⟩, ⟨s6, _⟩⟩ := Cde.leafs hr
  have HS2 := Lib.hid s2
  have HS3 := Lib.hid s3
  have HS5 := Lib.hid s5
  have HS6 := Lib.hid s6
  have HGHS2 := Lib.hid hgo
  have HGHS3 := Lib.hid hgh
  have HGHS5 := Lib.hid hgl
  have HGHS6 := Lib.hid hgs
  have HT := Lib.hid ht
  have H2 := Lib.hid h2
  have HLN := Lib.hid hln
  clear hr s2 s3 s5 s6 hgo hgh hgl hgs ht h2 hln hg hb
  have k1 := (Below.refl w.heap.size w).alloc (Nat.le_refl _) (.cells #[.int .i64 y.stack, .int .i64 y.locals, .slice A2 y.ops.length c2, .slice A3 y.handlers.length c3, .int .i64 y.has, .slice A5 y.lines.length c5, .slice A6 y.slots.length c6] 29)
  have X0 := Lib.hid (heap_alloc_new w (.cells #[.int .i64 y.stack, .int .i64 y.locals, .slice A2 y.ops.length c2, .slice A3 y.handlers.length c3, .int .i64 y.has, .slice A5 y.lines.length c5, .slice A6 y.slots.length c6] 29))
  have K0 := Lib.hid k1
  clear k1
  go_enter Tryd.func19, Tryd.ntmps19
  go_upto_region 1 with fail
  generalize w.alloc (.cells #[.int .i64 y.stack, .int .i64 y.locals, .slice A2 y.ops.length c2, .slice A3 y.handlers.length c3, .int .i64 y.has, .slice A5 y.lines.length c5, .slice A6 y.slots.length c6] 29) = W at X0 K0 ⊢
  have e0 : W.cell? ⟨w.heap.size, 0, none⟩ = some (.int .i64 y.stack) := by rw [Lib.cell_of_heap X0.out]; rfl
  have e1 : W.cell? ⟨w.heap.size, 1, none⟩ = some (.int .i64 y.locals) := by rw [Lib.cell_of_heap X0.out]; rfl
  have hq := (Array.getElem?_eq_some_iff.1 X0.out).1
  have k2 := (Below.refl W.heap.size W).alloc (Nat.le_refl _) (.cells #[.int .i64 y.stack, .int .i64 y.locals] 3)
  have CI := Lib.hid (ints_blk (heap_alloc_new W (.cells #[.int .i64 y.stack, .int .i64 y.locals] 3)) [y.stack, y.locals] 2 rfl rfl H2.out (by simp) (tab_below HT.out (K0.out.trans (k2.mono K0.out.size))))
  have K1 := Lib.hid k2
  clear k2
  go_upto_region 2 with fail
  refine CI.out.mono ?_
  rintro e w1 ⟨rfl, hb1⟩
  have kk := K1.out.trans (hb1.mono K1.out.size)
  have K2 := Lib.hid (K0.out.trans (kk.mono K0.out.size))
  have X2 := Lib.hid ((kk.block _ hq).trans X0.out)
  clear hb1 kk CI K1 K0 X0 e0 e1 hq
  have k3 := (Below.refl w1.heap.size w1).alloc (Nat.le_refl _) (.cells #[.string ⟨#[99, 111, 100, 101]⟩, .string (bs (Li.ints [y.stack, y.locals]))] 9)
  have CL := Lib.hid (line_blk (heap_alloc_new w1 (.cells #[.string ⟨#[99, 111, 100, 101]⟩, .string (bs (Li.ints [y.stack, y.locals]))] 9)) [[99, 111, 100, 101], Li.ints [y.stack, y.locals]] 2 rfl rfl (by simp) HLN.out)
  have K3 := Lib.hid k3
  clear k3
  go_upto_region 2 with fail
  refine CL.out.mono ?_
  rintro e w2 ⟨rfl, hb2⟩
  have kk := K3.out.trans (hb2.mono K3.out.size)
  have K4 := K2.out.trans (kk.mono K2.out.size)
  have X4 := (kk.block _ (Array.getElem?_eq_some_iff.1 X2.out).1).trans X2.out
  obtain ⟨L0, hL0⟩ : ∃ z, z = Li.line [[99, 111, 100, 101], Li.ints [y.stack, y.locals]] := ⟨_, rfl⟩
  rw [← hL0]
  have HL0 := Lib.hid hL0
  have k5 := (Below.refl w2.heap.size w2).alloc (Nat.le_refl _) (.cells #[.string (bs L0)] 9)
  have R0 := Lib.hid (TRow.one w2 w.heap.size K4.size L0)
  have K0 := Lib.hid (K4.trans (k5.mono K4.size))
  have X0 := Lib.hid ((k5.block _ (Array.getElem?_eq_some_iff.1 X4).1).trans X4)
  clear hb2 kk CL K3 K2 X2 K4 X4 hL0 k5
  go_upto_region 2 with fail
  generalize hwr : w2.alloc (.cells #[.string (bs L0)] 9) = wr at R0 K0 X0 ⊢
  clear hwr
  have e3 : wr.cell? ⟨w.heap.size, 2, none⟩ = some (.slice A2 y.ops.length c2) := by rw [Lib.cell_of_heap X0.out]; rfl
  have hq4 := (Array.getElem?_eq_some_iff.1 X0.out).1
  go_upto_region 3 with fail
  clear e3 hq4
  go_loopw [3, 24] (fun s3 sI wr => ∃ i : Nat, i ≤ y.ops.length ∧ sI = .int .i64 i ∧ TRow wr w.heap.size s3 ([L0] ++ Li.opsFrom 0 (y.ops.take i)) ∧ Below w.heap.size w wr ∧ wr.heap[w.heap.size]? = some (.cells #[.int .i64 y.stack, .int .i64 y.locals, .slice A2 y.ops.length c2, .slice A3 y.handlers.length c3, .int .i64 y.has, .slice A5 y.lines.length c5, .slice A6 y.slots.length c6] 29 (0, 0))) (fun _ sI _ => y.ops.length - (intOf sI).toNat)
  case atStart => exact ⟨0, Nat.zero_le _, rfl, by simpa [Li.opsFrom] using R0.out, K0.out, X0.out⟩
  case round =>
    obtain ⟨i, hil, rfl, hR0, hK0, hX0⟩ := hrel
    by_cases h1 : i < y.ops.length
    · as_aux_lemma =>
      obtain ⟨g, o, x, cx, rfl, hgw, hx, hrx, hcl, hcx⟩ := HS2.out.at_ h1
      have HGX := Lib.hid (HGHS2.out x (List.mem_of_getElem? hx))
      have HSN := Lib.hid (opsFrom_snoc hx)
      have hcw := hcx.grow hK0 hgw
      have HONE := Lib.hid (ins_one cx x hrx)
      have HRX := Lib.hid (fun w' (k : Below w.heap.size w w') => Cins.rd_grow hrx k)
      obtain ⟨I5, i5, I6, i6, rfl, _⟩ := Cins.leafs hrx
      have hgr : g < wr.heap.size := Nat.lt_of_lt_of_le hgw hK0.size
      have HCW := Lib.hid hcw
      have hcl1 : (Tryd.prog.info? 47).map (·.size) = some 12 := by kernel_rfl
      have k4 := (Below.refl wr.heap.size wr).alloc (Nat.le_refl _) (.cells #[.int .i64 x.op, .int .i64 x.var, .int .i64 x.num, .int .i64 x.const.tag, .string (bs x.const.text), .int .u64 x.const.bits, .string (bs x.const.cls), .string (bs x.const.name), .string (bs x.const.desc), .int .i64 x.to, .slice I5 x.keys.length i5, .slice I6 x.targets.length i6] 47)
      have E4 := Lib.hid (heap_alloc_new wr (.cells #[.int .i64 x.op, .int .i64 x.var, .int .i64 x.num, .int .i64 x.const.tag, .string (bs x.const.text), .int .u64 x.const.bits, .string (bs x.const.cls), .string (bs x.const.name), .string (bs x.const.desc), .int .i64 x.to, .slice I5 x.keys.length i5, .slice I6 x.targets.length i6] 47))
      have R4 := Lib.hid (hR0.grow k4)
      have K4 := Lib.hid (hK0.trans (k4.mono hK0.size))
      have X4 := Lib.hid ((k4.block w.heap.size (Array.getElem?_eq_some_iff.1 hX0).1).trans hX0)
      clear hR0 hK0 hX0 hcw hcx hrx hcl k4 hgw
      go_upto_region 5 with (first | (refine wpList_load_cells rfl 47 _ rfl g (o + i * 12) rfl _ HCW.out _ Tryd.underlying47 rfl hcl1 ?_) | (refine wpList_store_fresh rfl 47 _ _ rfl wr _ [.int .i64 x.op, .int .i64 x.var, .int .i64 x.num, .int .i64 x.const.tag, .string (bs x.const.text), .int .u64 x.const.bits, .string (bs x.const.cls), .string (bs x.const.name), .string (bs x.const.desc), .int .i64 x.to, .slice I5 x.keys.length i5, .slice I6 x.targets.length i6] 47 rfl rfl hcl1 rfl HONE.out ?_))
      generalize hW4 : wr.alloc (.cells #[.int .i64 x.op, .int .i64 x.var, .int .i64 x.num, .int .i64 x.const.tag, .string (bs x.const.text), .int .u64 x.const.bits, .string (bs x.const.cls), .string (bs x.const.name), .string (bs x.const.desc), .int .i64 x.to, .slice I5 x.keys.length i5, .slice I6 x.targets.length i6] 47) = W4 at E4 R4 K4 X4 ⊢
      have z4 : wr.heap.size < W4.heap.size := (Array.getElem?_eq_some_iff.1 E4.out).1
      clear hW4 hgr HCW HONE
      have hcl2 : (Tryd.prog.info? 47).map (·.size) = some 12 := by kernel_rfl
      have HCX := Lib.hid (show CellsAt W4 wr.heap.size 0 [.int .i64 x.op, .int .i64 x.var, .int .i64 x.num, .int .i64 x.const.tag, .string (bs x.const.text), .int .u64 x.const.bits, .string (bs x.const.cls), .string (bs x.const.name), .string (bs x.const.desc), .int .i64 x.to, .slice I5 x.keys.length i5, .slice I6 x.targets.length i6] from cellsAt_block E4.out 0 12)
      have CX := Lib.hid (ins_any W4 (i : Int) x _ (HRX.out W4 K4.out) HGX.out.1 HGX.out.2 ⟨by omega, by omega⟩ (tab_below HT.out K4.out))
      go_upto_region 6 with (refine wpList_load_cells rfl 47 _ rfl wr.heap.size 0 rfl _ HCX.out _ Tryd.underlying47 rfl hcl2 ?_)
      refine CX.out.mono ?_
      rintro e w1 ⟨rfl, hb1⟩
      have k5 := (Below.refl w1.heap.size w1).alloc (Nat.le_refl _) (.cells #[.string (bs (Li.ins (i : Int) x))] 9)
      have kk := hb1.trans (k5.mono hb1.size)
      have zz := Nat.le_trans K4.out.size kk.size
      have R5 := Lib.hid (R4.out.grow kk)
      have K5 := Lib.hid (K4.out.trans (kk.mono K4.out.size))
      have X5 := Lib.hid ((kk.block _ (Array.getElem?_eq_some_iff.1 X4.out).1).trans X4.out)
      have FB := Lib.hid (heap_alloc_new w1 (.cells #[.string (bs (Li.ins (i : Int) x))] 9))
      clear hb1 k5 kk CX HCX hcl2 R4 K4 X4 E4 HRX
      have hnn : ([L0] ++ Li.opsFrom 0 (y.ops.take i)).length ≤ 1000000000000 := by rw [List.length_append, opsFrom_len, List.length_take, List.length_singleton]; omega
      go_wp2_with (at_builtin; refine wpList_appS rfl _ _ rfl w.heap.size _ _ rfl R5.out _ (Li.ins (i : Int) x) _ _ rfl FB.out hnn zz ?_; intro v2 w2 hr2 hh2; have R6 := Lib.hid hr2; have K6 := Lib.hid (K5.out.trans (hh2.below zz (fun k hk => (World.ownsRow.lt R5.out k hk).1))); have X6 := Lib.hid ((hh2.1.block _ (Array.getElem?_eq_some_iff.1 X5.out).1 (own_ne R5.out X5.out (by decide))).trans X5.out); clear hr2 hh2)
      refine ⟨⟨i + 1, h1, rfl, ?_, K6.out, X6.out⟩, less_next h1⟩
      rw [HSN.out, ← List.append_assoc]
      exact R6.out
    · as_aux_lemma =>
      have hie : i = y.ops.length := by omega
      subst hie
      rw [List.take_length] at hR0
      obtain ⟨U1, hU1⟩ : ∃ z, z = [L0] ++ Li.opsFrom 0 y.ops := ⟨_, rfl⟩
      rw [← hU1] at hR0
      have HU1 := Lib.hid hU1
      have R1 := Lib.hid hR0
      have K1 := Lib.hid hK0
      have X1 := Lib.hid hX0
      clear hU1 hR0 hK0 hX0
      have hu1 : U1.length ≤ 10000000 := by rw [HU1.out, List.length_append, opsFrom_len, List.length_singleton]; omega
      have e3 : wr.cell? ⟨w.heap.size, 3, none⟩ = some (.slice A3 y.handlers.length c3) := by rw [Lib.cell_of_heap X1.out]; rfl
      have hq4 := (Array.getElem?_eq_some_iff.1 X1.out).1
      go_upto_region 8 with fail
      clear e3 hq4
      go_loopw [3, 39] (fun s3 sI wr => ∃ i : Nat, i ≤ y.handlers.length ∧ sI = .int .i64 i ∧ TRow wr w.heap.size s3 (U1 ++ (y.handlers.take i).map Li.hnd) ∧ Below w.heap.size w wr ∧ wr.heap[w.heap.size]? = some (.cells #[.int .i64 y.stack, .int .i64 y.locals, .slice A2 y.ops.length c2, .slice A3 y.handlers.length c3, .int .i64 y.has, .slice A5 y.lines.length c5, .slice A6 y.slots.length c6] 29 (0, 0))) (fun _ sI _ => y.handlers.length - (intOf sI).toNat)
      case atStart => exact ⟨0, Nat.zero_le _, rfl, by simpa using R1.out, K1.out, X1.out⟩
      case round =>
        obtain ⟨i, hil, rfl, hR0, hK0, hX0⟩ := hrel
        by_cases h1 : i < y.handlers.length
        · as_aux_lemma =>
          obtain ⟨g, o, x, cx, rfl, hgw, hx, hrx, hcl, hcx⟩ := HS3.out.at_ h1
          have HGX := Lib.hid (HGHS3.out x (List.mem_of_getElem? hx))
          have HSN := Lib.hid (map_snoc Li.hnd hx)
          have hcw := hcx.grow hK0 hgw
          have HONE := Lib.hid (hnd_one cx x hrx)
          have HRX := Lib.hid (fun w' (k : Below w.heap.size w w') => Hnd.rd_grow hrx k)
          obtain rfl := Hnd.leafs hrx
          have hgr : g < wr.heap.size := Nat.lt_of_lt_of_le hgw hK0.size
          have HCW := Lib.hid hcw
          have hcl1 : (Tryd.prog.info? 78).map (·.size) = some 4 := by kernel_rfl
          have k4 := (Below.refl wr.heap.size wr).alloc (Nat.le_refl _) (.cells #[.int .i64 x.from_, .int .i64 x.till, .int .i64 x.to, .string (bs x.kind)] 78)
          have E4 := Lib.hid (heap_alloc_new wr (.cells #[.int .i64 x.from_, .int .i64 x.till, .int .i64 x.to, .string (bs x.kind)] 78))
          have R4 := Lib.hid (hR0.grow k4)
          have K4 := Lib.hid (hK0.trans (k4.mono hK0.size))
          have X4 := Lib.hid ((k4.block w.heap.size (Array.getElem?_eq_some_iff.1 hX0).1).trans hX0)
          clear hR0 hK0 hX0 hcw hcx hrx hcl k4 hgw
          go_upto_region 10 with (first | (refine wpList_load_cells rfl 78 _ rfl g (o + i * 4) rfl _ HCW.out _ Tryd.underlying78 rfl hcl1 ?_) | (refine wpList_store_fresh rfl 78 _ _ rfl wr _ [.int .i64 x.from_, .int .i64 x.till, .int .i64 x.to, .string (bs x.kind)] 78 rfl rfl hcl1 rfl HONE.out ?_))
          generalize hW4 : wr.alloc (.cells #[.int .i64 x.from_, .int .i64 x.till, .int .i64 x.to, .string (bs x.kind)] 78) = W4 at E4 R4 K4 X4 ⊢
          have z4 : wr.heap.size < W4.heap.size := (Array.getElem?_eq_some_iff.1 E4.out).1
          clear hW4 hgr HCW HONE
          obtain ⟨f1, f2⟩ := blk_facts E4.out
          have z1d : wr.heap.size < W4.drew.heap.size := z4
          have HT1 := Lib.hid (tab_below HT.out K4.out.drew)
          dsimp only [Act.put]
          refine wp_region_ord 15 (by kernel_rfl) (by kernel_rfl) (fun _ _ d _ _ h => by cases d <;> exact h) ?_
          simp only [List.take_succ_cons, List.take_zero, List.drop_succ_cons, List.drop_zero]
          repeat (first | (refine wpLex_skip rfl ?_; simp only [Act.put, List.setIfInBounds_toArray, List.set_cons_zero, List.set_cons_succ]) | (refine wpLex_fix rfl ?_; intro F hF R hR hne K hK; go_big_quiet_op; first | (go_big_quiet_on; clear hne hR R hF F) | (apply Exists.intro; refine ⟨fun g => ?_, ?_⟩; (((first | (rw [GrE.cell g _ _ z1d]; go_simp; first | exact ⟨rfl, rfl⟩ | rfl) | (go_simp; (repeat (simp only [GrE.cell g _ _ z1d]; go_simp)); first | exact ⟨rfl, rfl⟩ | rfl) | (go_at_call 15; exact GrE.call hR (ints_blk (GrE.blk g (hF.out _ _ _ (by decide) (.inr ⟨rfl, rfl, rfl⟩))) [x.from_, x.till, x.to] _ rfl rfl HGX.out.1 (by simp) (tab_below HT1.out (GrE.below g)))) | (go_at_call 14; exact GrE.call hR (or_any x.kind _ HGX.out.2.1)) | (go_at_call 13; exact GrE.call hR (line_blk (GrE.blk g (hF.out _ _ _ (by decide) (.inr ⟨rfl, rfl, rfl⟩))) [[104, 97, 110, 100, 108, 101, 114], Li.ints [x.from_, x.till, x.to], Li.or x.kind] _ rfl rfl (by simp) HGX.out.2.2))))); go_big_quiet_on; clear hne hR R hF F)) | (apply wpLex_blk rfl; (focus (intro x hx; go_simp; exact ⟨rfl, rfl⟩)); intro B hB; simp only [Act.put, blkVal, List.setIfInBounds_toArray, List.set_cons_zero, List.set_cons_succ]))
          refine wpLex_nil ?_
          intro w1 hw1
          have F1 := hw1.fact 57 _ _ (.inr ⟨rfl, rfl, rfl⟩)
          have kk := (Below.refl W4.heap.size W4).drew.trans hw1.below
          have zz : w.heap.size ≤ w1.heap.size := Nat.le_trans K4.out.size kk.size
          have R5 := Lib.hid (R4.out.grow kk)
          have K5 := Lib.hid (K4.out.trans (kk.mono K4.out.size))
          have X5 := Lib.hid ((kk.block _ (Array.getElem?_eq_some_iff.1 X4.out).1).trans X4.out)
          have FB := Lib.hid F1.2
          clear hw1 F1 f1 f2 z1d kk R4 K4 X4 E4 HRX
          have hnn : (U1 ++ (y.handlers.take i).map Li.hnd).length ≤ 1000000000000 := by rw [List.length_append, List.length_map, List.length_take]; omega
          go_wp2_with (at_builtin; refine wpList_appS rfl _ _ rfl w.heap.size _ _ rfl R5.out _ (Li.hnd x) _ _ rfl FB.out hnn zz ?_; intro v2 w2 hr2 hh2; have R6 := Lib.hid hr2; have K6 := Lib.hid (K5.out.trans (hh2.below zz (fun k hk => (World.ownsRow.lt R5.out k hk).1))); have X6 := Lib.hid ((hh2.1.block _ (Array.getElem?_eq_some_iff.1 X5.out).1 (own_ne R5.out X5.out (by decide))).trans X5.out); clear hr2 hh2)
          refine ⟨⟨i + 1, h1, rfl, ?_, K6.out, X6.out⟩, less_next h1⟩
          rw [HSN.out, ← List.append_assoc]
          exact R6.out
        · as_aux_lemma =>
          have hie : i = y.handlers.length := by omega
          subst hie
          rw [List.take_length] at hR0
          obtain ⟨U2, hU2⟩ : ∃ z, z = U1 ++ y.handlers.map Li.hnd := ⟨_, rfl⟩
          rw [← hU2] at hR0
          have HU2 := Lib.hid hU2
          have R2 := Lib.hid hR0
          have K2 := Lib.hid hK0
          have X2 := Lib.hid hX0
          clear hU2 hR0 hK0 hX0
          have hu2 : U2.length ≤ 20000000 := by rw [HU2.out, List.length_append, List.length_map]; omega
          have e3 : wr.cell? ⟨w.heap.size, 5, none⟩ = some (.slice A5 y.lines.length c5) := by rw [Lib.cell_of_heap X2.out]; rfl
          have hq4 := (Array.getElem?_eq_some_iff.1 X2.out).1
          go_upto_region 13 with fail
          clear e3 hq4
          go_loopw [3, 63] (fun s3 sI wr => ∃ i : Nat, i ≤ y.lines.length ∧ sI = .int .i64 i ∧ TRow wr w.heap.size s3 (U2 ++ (y.lines.take i).map Li.lno) ∧ Below w.heap.size w wr ∧ wr.heap[w.heap.size]? = some (.cells #[.int .i64 y.stack, .int .i64 y.locals, .slice A2 y.ops.length c2, .slice A3 y.handlers.length c3, .int .i64 y.has, .slice A5 y.lines.length c5, .slice A6 y.slots.length c6] 29 (0, 0))) (fun _ sI _ => y.lines.length - (intOf sI).toNat)
          case atStart => exact ⟨0, Nat.zero_le _, rfl, by simpa using R2.out, K2.out, X2.out⟩
          case round =>
            obtain ⟨i, hil, rfl, hR0, hK0, hX0⟩ := hrel
            by_cases h1 : i < y.lines.length
            · as_aux_lemma =>
              obtain ⟨g, o, x, cx, rfl, hgw, hx, hrx, hcl, hcx⟩ := HS5.out.at_ h1
              have HGX := Lib.hid (HGHS5.out x (List.mem_of_getElem? hx))
              have HSN := Lib.hid (map_snoc Li.lno hx)
              have hcw := hcx.grow hK0 hgw
              have HONE := Lib.hid (lno_one cx x hrx)
              have HRX := Lib.hid (fun w' (k : Below w.heap.size w w') => Lno.rd_grow hrx k)
              obtain rfl := Lno.leafs hrx
              have hgr : g < wr.heap.size := Nat.lt_of_lt_of_le hgw hK0.size
              have HCW := Lib.hid hcw
              have hcl1 : (Tryd.prog.info? 80).map (·.size) = some 2 := by kernel_rfl
              have k4 := (Below.refl wr.heap.size wr).alloc (Nat.le_refl _) (.cells #[.int .i64 x.at_, .int .i64 x.line] 80)
              have E4 := Lib.hid (heap_alloc_new wr (.cells #[.int .i64 x.at_, .int .i64 x.line] 80))
              have R4 := Lib.hid (hR0.grow k4)
              have K4 := Lib.hid (hK0.trans (k4.mono hK0.size))
              have X4 := Lib.hid ((k4.block w.heap.size (Array.getElem?_eq_some_iff.1 hX0).1).trans hX0)
              clear hR0 hK0 hX0 hcw hcx hrx hcl k4 hgw
              go_upto_region 15 with (first | (refine wpList_load_cells rfl 80 _ rfl g (o + i * 2) rfl _ HCW.out _ Tryd.underlying80 rfl hcl1 ?_) | (refine wpList_store_fresh rfl 80 _ _ rfl wr _ [.int .i64 x.at_, .int .i64 x.line] 80 rfl rfl hcl1 rfl HONE.out ?_))
              generalize hW4 : wr.alloc (.cells #[.int .i64 x.at_, .int .i64 x.line] 80) = W4 at E4 R4 K4 X4 ⊢
              have z4 : wr.heap.size < W4.heap.size := (Array.getElem?_eq_some_iff.1 E4.out).1
              clear hW4 hgr HCW HONE
              have f0 : W4.cell? ⟨wr.heap.size, 0, none⟩ = some (.int .i64 x.at_) := by rw [Lib.cell_of_heap E4.out]; rfl
              have f1 : W4.cell? ⟨wr.heap.size, 1, none⟩ = some (.int .i64 x.line) := by rw [Lib.cell_of_heap E4.out]; rfl
              have k5 := (Below.refl W4.heap.size W4).alloc (Nat.le_refl _) (.cells #[.int .i64 x.at_, .int .i64 x.line] 3)
              have CI := Lib.hid (ints_blk (heap_alloc_new W4 (.cells #[.int .i64 x.at_, .int .i64 x.line] 3)) [x.at_, x.line] 2 rfl rfl HGX.out.1 (by simp) (tab_below HT.out (K4.out.trans (k5.mono K4.out.size))))
              have K5 := Lib.hid k5
              clear k5
              go_upto_region 15 with fail
              go_upto_region 16 with fail
              refine CI.out.mono ?_
              rintro e w5 ⟨rfl, hb5⟩
              have kk := K5.out.trans (hb5.mono K5.out.size)
              have k6 := (Below.refl w5.heap.size w5).alloc (Nat.le_refl _) (.cells #[.string ⟨#[108, 105, 110, 101]⟩, .string (bs (Li.ints [x.at_, x.line]))] 9)
              have CL := Lib.hid (line_blk (heap_alloc_new w5 (.cells #[.string ⟨#[108, 105, 110, 101]⟩, .string (bs (Li.ints [x.at_, x.line]))] 9)) [[108, 105, 110, 101], Li.ints [x.at_, x.line]] 2 rfl rfl (by simp) HGX.out.2)
              have K6 := Lib.hid (kk.trans (k6.mono kk.size))
              clear k6 kk hb5 CI K5 f0 f1
              go_upto_region 16 with fail
              refine CL.out.mono ?_
              rintro e w6 ⟨rfl, hb6⟩
              have kk := K6.out.trans (hb6.mono K6.out.size)
              have hfold : Li.line [[108, 105, 110, 101], Li.ints [x.at_, x.line]] = Li.lno x := rfl
              rw [hfold]
              clear hfold
              have k7 := (Below.refl w6.heap.size w6).alloc (Nat.le_refl _) (.cells #[.string (bs (Li.lno x))] 9)
              have kk7 := kk.trans (k7.mono kk.size)
              have zz := Nat.le_trans K4.out.size kk7.size
              have R5 := Lib.hid (R4.out.grow kk7)
              have K5 := Lib.hid (K4.out.trans (kk7.mono K4.out.size))
              have X5 := Lib.hid ((kk7.block _ (Array.getElem?_eq_some_iff.1 X4.out).1).trans X4.out)
              have FB := Lib.hid (heap_alloc_new w6 (.cells #[.string (bs (Li.lno x))] 9))
              clear hb6 k7 kk kk7 CL K6 R4 K4 X4 E4 HRX
              have hnn : (U2 ++ (y.lines.take i).map Li.lno).length ≤ 1000000000000 := by rw [List.length_append, List.length_map, List.length_take]; omega
              go_wp2_with (at_builtin; refine wpList_appS rfl _ _ rfl w.heap.size _ _ rfl R5.out _ (Li.lno x) _ _ rfl FB.out hnn zz ?_; intro v2 w2 hr2 hh2; have R6 := Lib.hid hr2; have K6 := Lib.hid (K5.out.trans (hh2.below zz (fun k hk => (World.ownsRow.lt R5.out k hk).1))); have X6 := Lib.hid ((hh2.1.block _ (Array.getElem?_eq_some_iff.1 X5.out).1 (own_ne R5.out X5.out (by decide))).trans X5.out); clear hr2 hh2)
              refine ⟨⟨i + 1, h1, rfl, ?_, K6.out, X6.out⟩, less_next h1⟩
              rw [HSN.out, ← List.append_assoc]
              exact R6.out
            · as_aux_lemma =>
              have hie : i = y.lines.length := by omega
              subst hie
              rw [List.take_length] at hR0
              obtain ⟨U3, hU3⟩ : ∃ z, z = U2 ++ y.lines.map Li.lno := ⟨_, rfl⟩
              rw [← hU3] at hR0
              have HU3 := Lib.hid hU3
              have R3 := Lib.hid hR0
              have K3 := Lib.hid hK0
              have X3 := Lib.hid hX0
              clear hU3 hR0 hK0 hX0
              have hu3 : U3.length ≤ 30000000 := by rw [HU3.out, List.length_append, List.length_map]; omega
              have e3 : wr.cell? ⟨w.heap.size, 6, none⟩ = some (.slice A6 y.slots.length c6) := by rw [Lib.cell_of_heap X3.out]; rfl
              have hq4 := (Array.getElem?_eq_some_iff.1 X3.out).1
              go_upto_region 18 with fail
              clear e3 hq4
              go_loopw [3, 82] (fun s3 sI wr => ∃ i : Nat, i ≤ y.slots.length ∧ sI = .int .i64 i ∧ TRow wr w.heap.size s3 (U3 ++ (y.slots.take i).map Li.slt) ∧ Below w.heap.size w wr ∧ wr.heap[w.heap.size]? = some (.cells #[.int .i64 y.stack, .int .i64 y.locals, .slice A2 y.ops.length c2, .slice A3 y.handlers.length c3, .int .i64 y.has, .slice A5 y.lines.length c5, .slice A6 y.slots.length c6] 29 (0, 0))) (fun _ sI _ => y.slots.length - (intOf sI).toNat)
              case atStart => exact ⟨0, Nat.zero_le _, rfl, by simpa using R3.out, K3.out, X3.out⟩
              case round =>
                obtain ⟨i, hil, rfl, hR0, hK0, hX0⟩ := hrel
                by_cases h1 : i < y.slots.length
                · as_aux_lemma =>
                  obtain ⟨g, o, x, cx, rfl, hgw, hx, hrx, hcl, hcx⟩ := HS6.out.at_ h1
                  have HGX := Lib.hid (HGHS6.out x (List.mem_of_getElem? hx))
                  have HSN := Lib.hid (map_snoc Li.slt hx)
                  have hcw := hcx.grow hK0 hgw
                  have HONE := Lib.hid (slt_one cx x hrx)
                  have HRX := Lib.hid (fun w' (k : Below w.heap.size w w') => Slt.rd_grow hrx k)
                  obtain rfl := Slt.leafs hrx
                  have hgr : g < wr.heap.size := Nat.lt_of_lt_of_le hgw hK0.size
                  have HCW := Lib.hid hcw
                  have hcl1 : (Tryd.prog.info? 82).map (·.size) = some 5 := by kernel_rfl
                  have k4 := (Below.refl wr.heap.size wr).alloc (Nat.le_refl _) (.cells #[.int .i64 x.from_, .int .i64 x.till, .string (bs x.name), .string (bs x.desc), .int .i64 x.var] 82)
                  have E4 := Lib.hid (heap_alloc_new wr (.cells #[.int .i64 x.from_, .int .i64 x.till, .string (bs x.name), .string (bs x.desc), .int .i64 x.var] 82))
                  have R4 := Lib.hid (hR0.grow k4)
                  have K4 := Lib.hid (hK0.trans (k4.mono hK0.size))
                  have X4 := Lib.hid ((k4.block w.heap.size (Array.getElem?_eq_some_iff.1 hX0).1).trans hX0)
                  clear hR0 hK0 hX0 hcw hcx hrx hcl k4 hgw
                  go_upto_region 20 with (first | (refine wpList_load_cells rfl 82 _ rfl g (o + i * 5) rfl _ HCW.out _ Tryd.underlying82 rfl hcl1 ?_) | (refine wpList_store_fresh rfl 82 _ _ rfl wr _ [.int .i64 x.from_, .int .i64 x.till, .string (bs x.name), .string (bs x.desc), .int .i64 x.var] 82 rfl rfl hcl1 rfl HONE.out ?_))
                  generalize hW4 : wr.alloc (.cells #[.int .i64 x.from_, .int .i64 x.till, .string (bs x.name), .string (bs x.desc), .int .i64 x.var] 82) = W4 at E4 R4 K4 X4 ⊢
                  have z4 : wr.heap.size < W4.heap.size := (Array.getElem?_eq_some_iff.1 E4.out).1
                  clear hW4 hgr HCW HONE
                  obtain ⟨f1, f2⟩ := blk_facts E4.out
                  have z1d : wr.heap.size < W4.drew.heap.size := z4
                  have HT1 := Lib.hid (tab_below HT.out K4.out.drew)
                  dsimp only [Act.put]
                  refine wp_region_ord 18 (by kernel_rfl) (by kernel_rfl) (fun _ _ d _ _ h => by cases d <;> exact h) ?_
                  simp only [List.take_succ_cons, List.take_zero, List.drop_succ_cons, List.drop_zero]
                  repeat (first | (refine wpLex_skip rfl ?_; simp only [Act.put, List.setIfInBounds_toArray, List.set_cons_zero, List.set_cons_succ]) | (refine wpLex_fix rfl ?_; intro F hF R hR hne K hK; go_big_quiet_op; first | (go_big_quiet_on; clear hne hR R hF F) | (apply Exists.intro; refine ⟨fun g => ?_, ?_⟩; (((first | (rw [GrE.cell g _ _ z1d]; go_simp; first | exact ⟨rfl, rfl⟩ | rfl) | (go_simp; (repeat (simp only [GrE.cell g _ _ z1d]; go_simp)); first | exact ⟨rfl, rfl⟩ | rfl) | (go_at_call 15; exact GrE.call hR (ints_blk (GrE.blk g (hF.out _ _ _ (by decide) (.inr ⟨rfl, rfl, rfl⟩))) [x.from_, x.till, x.var] _ rfl rfl HGX.out.1 (by simp) (tab_below HT1.out (GrE.below g)))) | (go_at_call 14; first | exact GrE.call hR (or_any x.name _ HGX.out.2.1) | exact GrE.call hR (or_any x.desc _ HGX.out.2.2.1)) | (go_at_call 13; exact GrE.call hR (line_blk (GrE.blk g (hF.out _ _ _ (by decide) (.inr ⟨rfl, rfl, rfl⟩))) [[115, 108, 111, 116], Li.ints [x.from_, x.till, x.var], Li.or x.name, Li.or x.desc] _ rfl rfl (by simp) HGX.out.2.2.2))))); go_big_quiet_on; clear hne hR R hF F)) | (apply wpLex_blk rfl; (focus (intro x hx; go_simp; exact ⟨rfl, rfl⟩)); intro B hB; simp only [Act.put, blkVal, List.setIfInBounds_toArray, List.set_cons_zero, List.set_cons_succ]))
                  refine wpLex_nil ?_
                  intro w1 hw1
                  have F1 := hw1.fact 103 _ _ (.inr ⟨rfl, rfl, rfl⟩)
                  have kk := (Below.refl W4.heap.size W4).drew.trans hw1.below
                  have zz : w.heap.size ≤ w1.heap.size := Nat.le_trans K4.out.size kk.size
                  have R5 := Lib.hid (R4.out.grow kk)
                  have K5 := Lib.hid (K4.out.trans (kk.mono K4.out.size))
                  have X5 := Lib.hid ((kk.block _ (Array.getElem?_eq_some_iff.1 X4.out).1).trans X4.out)
                  have FB := Lib.hid F1.2
                  clear hw1 F1 f1 f2 z1d kk R4 K4 X4 E4 HRX
                  have hnn : (U3 ++ (y.slots.take i).map Li.slt).length ≤ 1000000000000 := by rw [List.length_append, List.length_map, List.length_take]; omega
                  go_wp2_with (at_builtin; refine wpList_appS rfl _ _ rfl w.heap.size _ _ rfl R5.out _ (Li.slt x) _ _ rfl FB.out hnn zz ?_; intro v2 w2 hr2 hh2; have R6 := Lib.hid hr2; have K6 := Lib.hid (K5.out.trans (hh2.below zz (fun k hk => (World.ownsRow.lt R5.out k hk).1))); have X6 := Lib.hid ((hh2.1.block _ (Array.getElem?_eq_some_iff.1 X5.out).1 (own_ne R5.out X5.out (by decide))).trans X5.out); clear hr2 hh2)
                  refine ⟨⟨i + 1, h1, rfl, ?_, K6.out, X6.out⟩, less_next h1⟩
                  rw [HSN.out, ← List.append_assoc]
                  exact R6.out
                · as_aux_lemma =>
                  have hie : i = y.slots.length := by omega
                  subst hie
                  rw [List.take_length] at hR0
                  obtain ⟨U4, hU4⟩ : ∃ z, z = U3 ++ y.slots.map Li.slt := ⟨_, rfl⟩
                  rw [← hU4] at hR0
                  have HU4 := Lib.hid hU4
                  have R4 := Lib.hid hR0
                  have K4 := Lib.hid hK0
                  have X4 := Lib.hid hX0
                  clear hU4 hR0 hK0 hX0
                  have HE := Lib.hid (show U4 = Li.code y by rw [HU4.out, HU3.out, HU2.out, HU1.out, HL0.out]; unfold Li.code; simp only [List.append_assoc, List.cons_append, List.nil_append])
                  go_wp2_with fail
                  go_ret
                  exact ⟨_, rfl, by rw [← HE.out]; exact R4.out, K4.out⟩
end Go.Proofs.YtpjafbinlklojaaDoor
