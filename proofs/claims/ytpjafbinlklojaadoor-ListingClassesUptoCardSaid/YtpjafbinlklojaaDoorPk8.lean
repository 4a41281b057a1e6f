/- Joined texts: RefF, Lclass, OrdL. -/
import Derived.Test.YtpjafbinlklojaaDoorPk7
import Derived.Test.YtpjafbinlklojaaDoorPk1
/- The walks of the document's layer 35: a code's lines. Printed by mk_rcode.py. -/
namespace Go.Proofs.YtpjafbinlklojaaDoor
open Go.RowKit Go.Deep
set_option maxHeartbeats 16000000 in
set_option maxRecDepth 100000 in
theorem rcode_any (w : World) (y : Cde) (cs : List Value) (hr : Cde.rd w cs y) (hg : y.good) (hb : y.blk ≤ 2000000) :
    Calls Tryd.prog 23 #[.agg cs.toArray] w fun e w' => ∃ v, e = .returned v ∧ TRow w' w.heap.size v (Li.code y) ∧ Below w.heap.size w w' := by
  obtain ⟨h2, _, hgo, hgh, hgl, hgs, hn1, hn2, hn3, hn4⟩ := code_ok hg hb
  obtain ⟨A2, c2, A3, c3, A5, c5, A6, c6, rfl, ⟨s2, _⟩, ⟨s3, _⟩, ⟨s5, _⟩, ⟨s6, _⟩⟩ := Cde.leafs hr
  have HS2 := Lib.hid s2
  have HS3 := Lib.hid s3
  have HS5 := Lib.hid s5
  have HS6 := Lib.hid s6
  have HGHS2 := Lib.hid hgo
  have HGHS3 := Lib.hid hgh
  have HGHS5 := Lib.hid hgl
  have HGHS6 := Lib.hid hgs
  have H2 := Lib.hid h2
  clear hr s2 s3 s5 s6 hgo hgh hgl hgs h2 hg hb
  have k1 := (Below.refl w.heap.size w).alloc (Nat.le_refl _) (.cells #[.int .i64 y.stack, .int .i64 y.locals, .slice A2 y.ops.length c2, .slice A3 y.handlers.length c3, .int .i64 y.has, .slice A5 y.lines.length c5, .slice A6 y.slots.length c6] 29)
  have X0 := Lib.hid (heap_alloc_new w (.cells #[.int .i64 y.stack, .int .i64 y.locals, .slice A2 y.ops.length c2, .slice A3 y.handlers.length c3, .int .i64 y.has, .slice A5 y.lines.length c5, .slice A6 y.slots.length c6] 29))
  have K0 := Lib.hid k1
  clear k1
  go_enter Tryd.func23, Tryd.ntmps23
  go_upto_region 1 with fail
  generalize w.alloc (.cells #[.int .i64 y.stack, .int .i64 y.locals, .slice A2 y.ops.length c2, .slice A3 y.handlers.length c3, .int .i64 y.has, .slice A5 y.lines.length c5, .slice A6 y.slots.length c6] 29) = W at X0 K0 ⊢
  have e0 : W.cell? ⟨w.heap.size, 0, none⟩ = some (.int .i64 y.stack) := by rw [Lib.cell_of_heap X0.out]; rfl
  have e1 : W.cell? ⟨w.heap.size, 1, none⟩ = some (.int .i64 y.locals) := by rw [Lib.cell_of_heap X0.out]; rfl
  have hq := (Array.getElem?_eq_some_iff.1 X0.out).1
  have k2 := (Below.refl W.heap.size W).alloc (Nat.le_refl _) (.cells #[.int .i64 y.stack, .int .i64 y.locals] 3)
  have CI := Lib.hid (rnum_blk (heap_alloc_new W (.cells #[.int .i64 y.stack, .int .i64 y.locals] 3)) [y.stack, y.locals] 2 rfl rfl H2.out (by simp))
  have zn : (bs (Ri.num [y.stack, y.locals])).size ≤ 42 := by rw [bs_size]; exact rnum_len H2.out
  have K1 := Lib.hid k2
  clear k2
  obtain ⟨L0, hL0⟩ : ∃ z, z = Li.line [[99, 111, 100, 101], Li.ints [y.stack, y.locals]] := ⟨_, rfl⟩
  have hcat : (⟨#[99, 111, 100, 101]⟩ : ByteArray) ++ bs (Ri.num [y.stack, y.locals]) = bs L0 := by rw [show (⟨#[99, 111, 100, 101]⟩ : ByteArray) = bs [99, 111, 100, 101] from rfl, bs_append, codes y, hL0]
  have HL0 := Lib.hid hL0
  clear hL0
  go_upto_region 2 with fail
  refine CI.out.mono ?_
  rintro e w2 ⟨rfl, hb1⟩
  have kk := K1.out.trans (hb1.mono K1.out.size)
  have K4 := K0.out.trans (kk.mono K0.out.size)
  have X4 := (kk.block _ hq).trans X0.out
  have k5 := (Below.refl w2.heap.size w2).alloc (Nat.le_refl _) (.cells #[.string (bs L0)] 9)
  have R1 := Lib.hid (TRow.one w2 w.heap.size K4.size L0)
  have K9 := Lib.hid (K4.trans (k5.mono K4.size))
  have X9 := Lib.hid ((k5.block _ (Array.getElem?_eq_some_iff.1 X4).1).trans X4)
  clear hb1 kk CI K1 K0 X0 e0 e1 hq K4 X4 k5
  go_upto_region 2 with fail
  clear hcat zn
  have R0 := R1
  have K0 := K9
  have X0 := X9
  clear R1 K9 X9
  generalize hwr : w2.alloc (.cells #[.string (bs L0)] 9) = wr at R0 K0 X0 ⊢
  clear hwr
  have e3 : wr.cell? ⟨w.heap.size, 2, none⟩ = some (.slice A2 y.ops.length c2) := by rw [Lib.cell_of_heap X0.out]; rfl
  have hq4 := (Array.getElem?_eq_some_iff.1 X0.out).1
  go_upto_region 3 with fail
  clear e3 hq4
  go_loopw [3, 23] (fun s3 sI wr => ∃ i : Nat, i ≤ y.ops.length ∧ sI = .int .i64 i ∧ TRow wr w.heap.size s3 ([L0] ++ Li.opsFrom 0 (y.ops.take i)) ∧ Below w.heap.size w wr ∧ wr.heap[w.heap.size]? = some (.cells #[.int .i64 y.stack, .int .i64 y.locals, .slice A2 y.ops.length c2, .slice A3 y.handlers.length c3, .int .i64 y.has, .slice A5 y.lines.length c5, .slice A6 y.slots.length c6] 29 (0, 0))) (fun _ sI _ => y.ops.length - (intOf sI).toNat)
  case atStart => exact ⟨0, Nat.zero_le _, rfl, by simpa [Li.opsFrom] using R0.out, K0.out, X0.out⟩
  case round =>
    obtain ⟨i, hil, rfl, hR0, hK0, hX0⟩ := hrel
    by_cases h1 : i < y.ops.length
    · as_aux_lemma =>
      obtain ⟨g, o, x, cx, rfl, hgw, hx, hrx, hcl, hcx⟩ := HS2.out.at_ h1
      have HGX := Lib.hid (HGHS2.out x (List.mem_of_getElem? hx))
      have HSN := Lib.hid (opsFrom_snoc hx)
      have hcw := hcx.grow hK0 hgw
      have HONE := Lib.hid (ins_one cx x hrx)
      have HRX := Lib.hid (fun w' (k : Below w.heap.size w w') => Cins.rd_grow hrx k)
      obtain ⟨I5, i5, I6, i6, rfl, _⟩ := Cins.leafs hrx
      have hgr : g < wr.heap.size := Nat.lt_of_lt_of_le hgw hK0.size
      have HCW := Lib.hid hcw
      have hcl1 : (Tryd.prog.info? 47).map (·.size) = some 12 := by kernel_rfl
      have k4 := (Below.refl wr.heap.size wr).alloc (Nat.le_refl _) (.cells #[.int .i64 x.op, .int .i64 x.var, .int .i64 x.num, .int .i64 x.const.tag, .string (bs x.const.text), .int .u64 x.const.bits, .string (bs x.const.cls), .string (bs x.const.name), .string (bs x.const.desc), .int .i64 x.to, .slice I5 x.keys.length i5, .slice I6 x.targets.length i6] 47)
      have E4 := Lib.hid (heap_alloc_new wr (.cells #[.int .i64 x.op, .int .i64 x.var, .int .i64 x.num, .int .i64 x.const.tag, .string (bs x.const.text), .int .u64 x.const.bits, .string (bs x.const.cls), .string (bs x.const.name), .string (bs x.const.desc), .int .i64 x.to, .slice I5 x.keys.length i5, .slice I6 x.targets.length i6] 47))
      have R4 := Lib.hid (hR0.grow k4)
      have K4 := Lib.hid (hK0.trans (k4.mono hK0.size))
      have X4 := Lib.hid ((k4.block w.heap.size (Array.getElem?_eq_some_iff.1 hX0).1).trans hX0)
      clear hR0 hK0 hX0 hcw hcx hrx hcl k4 hgw
      go_upto_region 5 with (first | (refine wpList_load_cells rfl 47 _ rfl g (o + i * 12) rfl _ HCW.out _ Tryd.underlying47 rfl hcl1 ?_) | (refine wpList_store_fresh rfl 47 _ _ rfl wr _ [.int .i64 x.op, .int .i64 x.var, .int .i64 x.num, .int .i64 x.const.tag, .string (bs x.const.text), .int .u64 x.const.bits, .string (bs x.const.cls), .string (bs x.const.name), .string (bs x.const.desc), .int .i64 x.to, .slice I5 x.keys.length i5, .slice I6 x.targets.length i6] 47 rfl rfl hcl1 rfl HONE.out ?_))
      generalize hW4 : wr.alloc (.cells #[.int .i64 x.op, .int .i64 x.var, .int .i64 x.num, .int .i64 x.const.tag, .string (bs x.const.text), .int .u64 x.const.bits, .string (bs x.const.cls), .string (bs x.const.name), .string (bs x.const.desc), .int .i64 x.to, .slice I5 x.keys.length i5, .slice I6 x.targets.length i6] 47) = W4 at E4 R4 K4 X4 ⊢
      have z4 : wr.heap.size < W4.heap.size := (Array.getElem?_eq_some_iff.1 E4.out).1
      clear hW4 hgr HCW HONE
      have hcl2 : (Tryd.prog.info? 47).map (·.size) = some 12 := by kernel_rfl
      have HCX := Lib.hid (show CellsAt W4 wr.heap.size 0 [.int .i64 x.op, .int .i64 x.var, .int .i64 x.num, .int .i64 x.const.tag, .string (bs x.const.text), .int .u64 x.const.bits, .string (bs x.const.cls), .string (bs x.const.name), .string (bs x.const.desc), .int .i64 x.to, .slice I5 x.keys.length i5, .slice I6 x.targets.length i6] from cellsAt_block E4.out 0 12)
      have CX := Lib.hid (rins_any W4 (i : Int) x _ (HRX.out W4 K4.out) HGX.out.1 HGX.out.2 ⟨by omega, by omega⟩)
      rw [inss] at CX
      go_upto_region 6 with (refine wpList_load_cells rfl 47 _ rfl wr.heap.size 0 rfl _ HCX.out _ Tryd.underlying47 rfl hcl2 ?_)
      refine CX.out.mono ?_
      rintro e w1 ⟨rfl, hb1⟩
      have k5 := (Below.refl w1.heap.size w1).alloc (Nat.le_refl _) (.cells #[.string (bs (Li.ins (i : Int) x))] 9)
      have kk := hb1.trans (k5.mono hb1.size)
      have zz := Nat.le_trans K4.out.size kk.size
      have R5 := Lib.hid (R4.out.grow kk)
      have K5 := Lib.hid (K4.out.trans (kk.mono K4.out.size))
      have X5 := Lib.hid ((kk.block _ (Array.getElem?_eq_some_iff.1 X4.out).1).trans X4.out)
      have FB := Lib.hid (heap_alloc_new w1 (.cells #[.string (bs (Li.ins (i : Int) x))] 9))
      clear hb1 k5 kk CX HCX hcl2 R4 K4 X4 E4 HRX
      have hnn : ([L0] ++ Li.opsFrom 0 (y.ops.take i)).length ≤ 1000000000000 := by rw [List.length_append, opsFrom_len, List.length_take, List.length_singleton]; omega
      go_wp2_with (at_builtin; refine wpList_appS rfl _ _ rfl w.heap.size _ _ rfl R5.out _ (Li.ins (i : Int) x) _ _ rfl FB.out hnn zz ?_; intro v2 w2 hr2 hh2; have R6 := Lib.hid hr2; have K6 := Lib.hid (K5.out.trans (hh2.below zz (fun k hk => (World.ownsRow.lt R5.out k hk).1))); have X6 := Lib.hid ((hh2.1.block _ (Array.getElem?_eq_some_iff.1 X5.out).1 (own_ne R5.out X5.out (by decide))).trans X5.out); clear hr2 hh2)
      refine ⟨⟨i + 1, h1, rfl, ?_, K6.out, X6.out⟩, less_next h1⟩
      rw [HSN.out, ← List.append_assoc]
      exact R6.out
    · as_aux_lemma =>
      have hie : i = y.ops.length := by omega
      subst hie
      rw [List.take_length] at hR0
      obtain ⟨U1, hU1⟩ : ∃ z, z = [L0] ++ Li.opsFrom 0 y.ops := ⟨_, rfl⟩
      rw [← hU1] at hR0
      have HU1 := Lib.hid hU1
      have R1 := Lib.hid hR0
      have K1 := Lib.hid hK0
      have X1 := Lib.hid hX0
      clear hU1 hR0 hK0 hX0
      have hu1 : U1.length ≤ 10000000 := by rw [HU1.out, List.length_append, opsFrom_len, List.length_singleton]; omega
      have e3 : wr.cell? ⟨w.heap.size, 3, none⟩ = some (.slice A3 y.handlers.length c3) := by rw [Lib.cell_of_heap X1.out]; rfl
      have hq4 := (Array.getElem?_eq_some_iff.1 X1.out).1
      go_upto_region 8 with fail
      clear e3 hq4
      go_loopw [3, 38] (fun s3 sI wr => ∃ i : Nat, i ≤ y.handlers.length ∧ sI = .int .i64 i ∧ TRow wr w.heap.size s3 (U1 ++ (y.handlers.take i).map Li.hnd) ∧ Below w.heap.size w wr ∧ wr.heap[w.heap.size]? = some (.cells #[.int .i64 y.stack, .int .i64 y.locals, .slice A2 y.ops.length c2, .slice A3 y.handlers.length c3, .int .i64 y.has, .slice A5 y.lines.length c5, .slice A6 y.slots.length c6] 29 (0, 0))) (fun _ sI _ => y.handlers.length - (intOf sI).toNat)
      case atStart => exact ⟨0, Nat.zero_le _, rfl, by simpa using R1.out, K1.out, X1.out⟩
      case round =>
        obtain ⟨i, hil, rfl, hR0, hK0, hX0⟩ := hrel
        by_cases h1 : i < y.handlers.length
        · as_aux_lemma =>
          obtain ⟨g, o, x, cx, rfl, hgw, hx, hrx, hcl, hcx⟩ := HS3.out.at_ h1
          have HGX := Lib.hid (HGHS3.out x (List.mem_of_getElem? hx))
          have HSN := Lib.hid (map_snoc Li.hnd hx)
          have hcw := hcx.grow hK0 hgw
          have HONE := Lib.hid (hnd_one cx x hrx)
          have HRX := Lib.hid (fun w' (k : Below w.heap.size w w') => Hnd.rd_grow hrx k)
          obtain rfl := Hnd.leafs hrx
          have hgr : g < wr.heap.size := Nat.lt_of_lt_of_le hgw hK0.size
          have HCW := Lib.hid hcw
          have hcl1 : (Tryd.prog.info? 78).map (·.size) = some 4 := by kernel_rfl
          have k4 := (Below.refl wr.heap.size wr).alloc (Nat.le_refl _) (.cells #[.int .i64 x.from_, .int .i64 x.till, .int .i64 x.to, .string (bs x.kind)] 78)
          have E4 := Lib.hid (heap_alloc_new wr (.cells #[.int .i64 x.from_, .int .i64 x.till, .int .i64 x.to, .string (bs x.kind)] 78))
          have R4 := Lib.hid (hR0.grow k4)
          have K4 := Lib.hid (hK0.trans (k4.mono hK0.size))
          have X4 := Lib.hid ((k4.block w.heap.size (Array.getElem?_eq_some_iff.1 hX0).1).trans hX0)
          clear hR0 hK0 hX0 hcw hcx hrx hcl k4 hgw
          go_upto_region 10 with (first | (refine wpList_load_cells rfl 78 _ rfl g (o + i * 4) rfl _ HCW.out _ Tryd.underlying78 rfl hcl1 ?_) | (refine wpList_store_fresh rfl 78 _ _ rfl wr _ [.int .i64 x.from_, .int .i64 x.till, .int .i64 x.to, .string (bs x.kind)] 78 rfl rfl hcl1 rfl HONE.out ?_))
          generalize hW4 : wr.alloc (.cells #[.int .i64 x.from_, .int .i64 x.till, .int .i64 x.to, .string (bs x.kind)] 78) = W4 at E4 R4 K4 X4 ⊢
          have z4 : wr.heap.size < W4.heap.size := (Array.getElem?_eq_some_iff.1 E4.out).1
          clear hW4 hgr HCW HONE
          have zn : (bs (Ri.num [x.from_, x.till, x.to])).size ≤ 63 := by rw [bs_size]; exact rnum_len HGX.out.1
          have zo : (bs (Ri.or x.kind)).size ≤ 300000002 := by rw [bs_size]; have := rior_len x.kind; have := HGX.out.2.1; omega
          have hcat := Lib.hid (show (⟨#[104, 97, 110, 100, 108, 101, 114]⟩ : ByteArray) ++ bs (Ri.num [x.from_, x.till, x.to]) ++ bs (Ri.or x.kind) = bs (Li.hnd x) by rw [show (⟨#[104, 97, 110, 100, 108, 101, 114]⟩ : ByteArray) = bs [104, 97, 110, 100, 108, 101, 114] from rfl, bs_append, bs_append, ← hnds]; rfl)
          obtain ⟨f1, f2⟩ := blk_facts E4.out
          have z1d : wr.heap.size < W4.drew.heap.size := z4
          dsimp only [Act.put]
          refine wp_region_ord 15 (by kernel_rfl) (by kernel_rfl) (fun _ _ d _ _ h => by cases d <;> exact h) ?_
          simp only [List.take_succ_cons, List.take_zero, List.drop_succ_cons, List.drop_zero]
          repeat (first | (refine wpLex_skip rfl ?_; simp only [Act.put, List.setIfInBounds_toArray, List.set_cons_zero, List.set_cons_succ]) | (refine wpLex_fix rfl ?_; intro F hF R hR hne K hK; go_big_quiet_op; first | (go_big_quiet_on; clear hne hR R hF F) | (apply Exists.intro; refine ⟨fun g => ?_, ?_⟩; (((first | (rw [if_neg (by first | omega | (simp; omega))]; exact ⟨rfl, rfl⟩) | (rw [GrE.cell g _ _ z1d]; go_simp; first | exact ⟨rfl, rfl⟩ | rfl) | (go_simp; (repeat (simp only [GrE.cell g _ _ z1d]; go_simp)); first | exact ⟨rfl, rfl⟩ | rfl) | (go_at_call 21; exact GrE.call hR (rnum_blk (GrE.blk g (hF.out _ _ _ (by decide) (.inr ⟨rfl, rfl, rfl⟩))) [x.from_, x.till, x.to] _ rfl rfl HGX.out.1 (by simp))) | (go_at_call 20; exact GrE.call hR (ror_any x.kind _ HGX.out.2.1))))); go_big_quiet_on; clear hne hR R hF F)) | (apply wpLex_blk rfl; (focus (intro x hx; go_simp; exact ⟨rfl, rfl⟩)); intro B hB; simp only [Act.put, blkVal, List.setIfInBounds_toArray, List.set_cons_zero, List.set_cons_succ]))
          refine wpLex_nil ?_
          intro w1 hw1
          have F1 := hw1.fact 56 _ _ (.inr ⟨rfl, rfl, rfl⟩)
          rw [hcat.out] at F1
          have kk := (Below.refl W4.heap.size W4).drew.trans hw1.below
          have zz : w.heap.size ≤ w1.heap.size := Nat.le_trans K4.out.size kk.size
          have R5 := Lib.hid (R4.out.grow kk)
          have K5 := Lib.hid (K4.out.trans (kk.mono K4.out.size))
          have X5 := Lib.hid ((kk.block _ (Array.getElem?_eq_some_iff.1 X4.out).1).trans X4.out)
          have FB := Lib.hid F1.2
          clear hw1 F1 f1 f2 z1d kk R4 K4 X4 E4 HRX hcat
          have hnn : (U1 ++ (y.handlers.take i).map Li.hnd).length ≤ 1000000000000 := by rw [List.length_append, List.length_map, List.length_take]; omega
          go_wp2_with (at_builtin; refine wpList_appS rfl _ _ rfl w.heap.size _ _ rfl R5.out _ (Li.hnd x) _ _ rfl FB.out hnn zz ?_; intro v2 w2 hr2 hh2; have R6 := Lib.hid hr2; have K6 := Lib.hid (K5.out.trans (hh2.below zz (fun k hk => (World.ownsRow.lt R5.out k hk).1))); have X6 := Lib.hid ((hh2.1.block _ (Array.getElem?_eq_some_iff.1 X5.out).1 (own_ne R5.out X5.out (by decide))).trans X5.out); clear hr2 hh2)
          refine ⟨⟨i + 1, h1, rfl, ?_, K6.out, X6.out⟩, less_next h1⟩
          rw [HSN.out, ← List.append_assoc]
          exact R6.out
        · as_aux_lemma =>
          have hie : i = y.handlers.length := by omega
          subst hie
          rw [List.take_length] at hR0
          obtain ⟨U2, hU2⟩ : ∃ z, z = U1 ++ y.handlers.map Li.hnd := ⟨_, rfl⟩
          rw [← hU2] at hR0
          have HU2 := Lib.hid hU2
          have R2 := Lib.hid hR0
          have K2 := Lib.hid hK0
          have X2 := Lib.hid hX0
          clear hU2 hR0 hK0 hX0
          have hu2 : U2.length ≤ 20000000 := by rw [HU2.out, List.length_append, List.length_map]; omega
          have e3 : wr.cell? ⟨w.heap.size, 5, none⟩ = some (.slice A5 y.lines.length c5) := by rw [Lib.cell_of_heap X2.out]; rfl
          have hq4 := (Array.getElem?_eq_some_iff.1 X2.out).1
          go_upto_region 13 with fail
          clear e3 hq4
          go_loopw [3, 62] (fun s3 sI wr => ∃ i : Nat, i ≤ y.lines.length ∧ sI = .int .i64 i ∧ TRow wr w.heap.size s3 (U2 ++ (y.lines.take i).map Li.lno) ∧ Below w.heap.size w wr ∧ wr.heap[w.heap.size]? = some (.cells #[.int .i64 y.stack, .int .i64 y.locals, .slice A2 y.ops.length c2, .slice A3 y.handlers.length c3, .int .i64 y.has, .slice A5 y.lines.length c5, .slice A6 y.slots.length c6] 29 (0, 0))) (fun _ sI _ => y.lines.length - (intOf sI).toNat)
          case atStart => exact ⟨0, Nat.zero_le _, rfl, by simpa using R2.out, K2.out, X2.out⟩
          case round =>
            obtain ⟨i, hil, rfl, hR0, hK0, hX0⟩ := hrel
            by_cases h1 : i < y.lines.length
            · as_aux_lemma =>
              obtain ⟨g, o, x, cx, rfl, hgw, hx, hrx, hcl, hcx⟩ := HS5.out.at_ h1
              have HGX := Lib.hid (HGHS5.out x (List.mem_of_getElem? hx))
              have HSN := Lib.hid (map_snoc Li.lno hx)
              have hcw := hcx.grow hK0 hgw
              have HONE := Lib.hid (lno_one cx x hrx)
              have HRX := Lib.hid (fun w' (k : Below w.heap.size w w') => Lno.rd_grow hrx k)
              obtain rfl := Lno.leafs hrx
              have hgr : g < wr.heap.size := Nat.lt_of_lt_of_le hgw hK0.size
              have HCW := Lib.hid hcw
              have hcl1 : (Tryd.prog.info? 80).map (·.size) = some 2 := by kernel_rfl
              have k4 := (Below.refl wr.heap.size wr).alloc (Nat.le_refl _) (.cells #[.int .i64 x.at_, .int .i64 x.line] 80)
              have E4 := Lib.hid (heap_alloc_new wr (.cells #[.int .i64 x.at_, .int .i64 x.line] 80))
              have R4 := Lib.hid (hR0.grow k4)
              have K4 := Lib.hid (hK0.trans (k4.mono hK0.size))
              have X4 := Lib.hid ((k4.block w.heap.size (Array.getElem?_eq_some_iff.1 hX0).1).trans hX0)
              clear hR0 hK0 hX0 hcw hcx hrx hcl k4 hgw
              go_upto_region 15 with (first | (refine wpList_load_cells rfl 80 _ rfl g (o + i * 2) rfl _ HCW.out _ Tryd.underlying80 rfl hcl1 ?_) | (refine wpList_store_fresh rfl 80 _ _ rfl wr _ [.int .i64 x.at_, .int .i64 x.line] 80 rfl rfl hcl1 rfl HONE.out ?_))
              generalize hW4 : wr.alloc (.cells #[.int .i64 x.at_, .int .i64 x.line] 80) = W4 at E4 R4 K4 X4 ⊢
              have z4 : wr.heap.size < W4.heap.size := (Array.getElem?_eq_some_iff.1 E4.out).1
              clear hW4 hgr HCW HONE
              have f0 : W4.cell? ⟨wr.heap.size, 0, none⟩ = some (.int .i64 x.at_) := by rw [Lib.cell_of_heap E4.out]; rfl
              have f1 : W4.cell? ⟨wr.heap.size, 1, none⟩ = some (.int .i64 x.line) := by rw [Lib.cell_of_heap E4.out]; rfl
              have k5 := (Below.refl W4.heap.size W4).alloc (Nat.le_refl _) (.cells #[.int .i64 x.at_, .int .i64 x.line] 3)
              have CI := Lib.hid (rnum_blk (heap_alloc_new W4 (.cells #[.int .i64 x.at_, .int .i64 x.line] 3)) [x.at_, x.line] 2 rfl rfl HGX.out.1 (by simp))
              have K5 := Lib.hid k5
              clear k5
              have zn : (bs (Ri.num [x.at_, x.line])).size ≤ 42 := by rw [bs_size]; exact rnum_len HGX.out.1
              have hcat : (⟨#[108, 105, 110, 101]⟩ : ByteArray) ++ bs (Ri.num [x.at_, x.line]) = bs (Li.lno x) := by rw [show (⟨#[108, 105, 110, 101]⟩ : ByteArray) = bs [108, 105, 110, 101] from rfl, bs_append, ← lnos]; rfl
              go_upto_region 15 with fail
              go_upto_region 16 with fail
              refine CI.out.mono ?_
              rintro e w6 ⟨rfl, hb5⟩
              have kk := K5.out.trans (hb5.mono K5.out.size)
              have k7 := (Below.refl w6.heap.size w6).alloc (Nat.le_refl _) (.cells #[.string (bs (Li.lno x))] 9)
              have kk7 := kk.trans (k7.mono kk.size)
              have zz := Nat.le_trans K4.out.size kk7.size
              have R5 := Lib.hid (R4.out.grow kk7)
              have K5 := Lib.hid (K4.out.trans (kk7.mono K4.out.size))
              have X5 := Lib.hid ((kk7.block _ (Array.getElem?_eq_some_iff.1 X4.out).1).trans X4.out)
              have FB := Lib.hid (heap_alloc_new w6 (.cells #[.string (bs (Li.lno x))] 9))
              clear hb5 k7 kk kk7 CI R4 K4 X4 E4 HRX f0 f1
              have hnn : (U2 ++ (y.lines.take i).map Li.lno).length ≤ 1000000000000 := by rw [List.length_append, List.length_map, List.length_take]; omega
              go_wp2_with (at_builtin; refine wpList_appS rfl _ _ rfl w.heap.size _ _ rfl R5.out _ (Li.lno x) _ _ rfl FB.out hnn zz ?_; intro v2 w2 hr2 hh2; have R6 := Lib.hid hr2; have K6 := Lib.hid (K5.out.trans (hh2.below zz (fun k hk => (World.ownsRow.lt R5.out k hk).1))); have X6 := Lib.hid ((hh2.1.block _ (Array.getElem?_eq_some_iff.1 X5.out).1 (own_ne R5.out X5.out (by decide))).trans X5.out); clear hr2 hh2)
              refine ⟨⟨i + 1, h1, rfl, ?_, K6.out, X6.out⟩, less_next h1⟩
              rw [HSN.out, ← List.append_assoc]
              exact R6.out
            · as_aux_lemma =>
              have hie : i = y.lines.length := by omega
              subst hie
              rw [List.take_length] at hR0
              obtain ⟨U3, hU3⟩ : ∃ z, z = U2 ++ y.lines.map Li.lno := ⟨_, rfl⟩
              rw [← hU3] at hR0
              have HU3 := Lib.hid hU3
              have R3 := Lib.hid hR0
              have K3 := Lib.hid hK0
              have X3 := Lib.hid hX0
              clear hU3 hR0 hK0 hX0
              have hu3 : U3.length ≤ 30000000 := by rw [HU3.out, List.length_append, List.length_map]; omega
              have e3 : wr.cell? ⟨w.heap.size, 6, none⟩ = some (.slice A6 y.slots.length c6) := by rw [Lib.cell_of_heap X3.out]; rfl
              have hq4 := (Array.getElem?_eq_some_iff.1 X3.out).1
              go_upto_region 18 with fail
              clear e3 hq4
              go_loopw [3, 80] (fun s3 sI wr => ∃ i : Nat, i ≤ y.slots.length ∧ sI = .int .i64 i ∧ TRow wr w.heap.size s3 (U3 ++ (y.slots.take i).map Li.slt) ∧ Below w.heap.size w wr ∧ wr.heap[w.heap.size]? = some (.cells #[.int .i64 y.stack, .int .i64 y.locals, .slice A2 y.ops.length c2, .slice A3 y.handlers.length c3, .int .i64 y.has, .slice A5 y.lines.length c5, .slice A6 y.slots.length c6] 29 (0, 0))) (fun _ sI _ => y.slots.length - (intOf sI).toNat)
              case atStart => exact ⟨0, Nat.zero_le _, rfl, by simpa using R3.out, K3.out, X3.out⟩
              case round =>
                obtain ⟨i, hil, rfl, hR0, hK0, hX0⟩ := hrel
                by_cases h1 : i < y.slots.length
                · as_aux_lemma =>
                  obtain ⟨g, o, x, cx, rfl, hgw, hx, hrx, hcl, hcx⟩ := HS6.out.at_ h1
                  have HGX := Lib.hid (HGHS6.out x (List.mem_of_getElem? hx))
                  have HSN := Lib.hid (map_snoc Li.slt hx)
                  have hcw := hcx.grow hK0 hgw
                  have HONE := Lib.hid (slt_one cx x hrx)
                  have HRX := Lib.hid (fun w' (k : Below w.heap.size w w') => Slt.rd_grow hrx k)
                  obtain rfl := Slt.leafs hrx
                  have hgr : g < wr.heap.size := Nat.lt_of_lt_of_le hgw hK0.size
                  have HCW := Lib.hid hcw
                  have hcl1 : (Tryd.prog.info? 82).map (·.size) = some 5 := by kernel_rfl
                  have k4 := (Below.refl wr.heap.size wr).alloc (Nat.le_refl _) (.cells #[.int .i64 x.from_, .int .i64 x.till, .string (bs x.name), .string (bs x.desc), .int .i64 x.var] 82)
                  have E4 := Lib.hid (heap_alloc_new wr (.cells #[.int .i64 x.from_, .int .i64 x.till, .string (bs x.name), .string (bs x.desc), .int .i64 x.var] 82))
                  have R4 := Lib.hid (hR0.grow k4)
                  have K4 := Lib.hid (hK0.trans (k4.mono hK0.size))
                  have X4 := Lib.hid ((k4.block w.heap.size (Array.getElem?_eq_some_iff.1 hX0).1).trans hX0)
                  clear hR0 hK0 hX0 hcw hcx hrx hcl k4 hgw
                  go_upto_region 20 with (first | (refine wpList_load_cells rfl 82 _ rfl g (o + i * 5) rfl _ HCW.out _ Tryd.underlying82 rfl hcl1 ?_) | (refine wpList_store_fresh rfl 82 _ _ rfl wr _ [.int .i64 x.from_, .int .i64 x.till, .string (bs x.name), .string (bs x.desc), .int .i64 x.var] 82 rfl rfl hcl1 rfl HONE.out ?_))
                  generalize hW4 : wr.alloc (.cells #[.int .i64 x.from_, .int .i64 x.till, .string (bs x.name), .string (bs x.desc), .int .i64 x.var] 82) = W4 at E4 R4 K4 X4 ⊢
                  have z4 : wr.heap.size < W4.heap.size := (Array.getElem?_eq_some_iff.1 E4.out).1
                  clear hW4 hgr HCW HONE
                  have zn : (bs (Ri.num [x.from_, x.till, x.var])).size ≤ 63 := by rw [bs_size]; exact rnum_len HGX.out.1
                  have zo : (bs (Ri.or x.name)).size ≤ 300000002 := by rw [bs_size]; have := rior_len x.name; have := HGX.out.2.1; omega
                  have zo2 : (bs (Ri.or x.desc)).size ≤ 300000002 := by rw [bs_size]; have := rior_len x.desc; have := HGX.out.2.2.1; omega
                  have hcat := Lib.hid (show (⟨#[115, 108, 111, 116]⟩ : ByteArray) ++ bs (Ri.num [x.from_, x.till, x.var]) ++ bs (Ri.or x.name) ++ bs (Ri.or x.desc) = bs (Li.slt x) by rw [show (⟨#[115, 108, 111, 116]⟩ : ByteArray) = bs [115, 108, 111, 116] from rfl, bs_append, bs_append, bs_append, ← slts]; rfl)
                  obtain ⟨f1, f2⟩ := blk_facts E4.out
                  have z1d : wr.heap.size < W4.drew.heap.size := z4
                  dsimp only [Act.put]
                  refine wp_region_ord 19 (by kernel_rfl) (by kernel_rfl) (fun _ _ d _ _ h => by cases d <;> exact h) ?_
                  simp only [List.take_succ_cons, List.take_zero, List.drop_succ_cons, List.drop_zero]
                  repeat (first | (refine wpLex_skip rfl ?_; simp only [Act.put, List.setIfInBounds_toArray, List.set_cons_zero, List.set_cons_succ]) | (refine wpLex_fix rfl ?_; intro F hF R hR hne K hK; go_big_quiet_op; first | (go_big_quiet_on; clear hne hR R hF F) | (apply Exists.intro; refine ⟨fun g => ?_, ?_⟩; (((first | (rw [if_neg (by first | omega | (simp; omega))]; exact ⟨rfl, rfl⟩) | (rw [GrE.cell g _ _ z1d]; go_simp; first | exact ⟨rfl, rfl⟩ | rfl) | (go_simp; (repeat (simp only [GrE.cell g _ _ z1d]; go_simp)); first | exact ⟨rfl, rfl⟩ | rfl) | (go_at_call 21; exact GrE.call hR (rnum_blk (GrE.blk g (hF.out _ _ _ (by decide) (.inr ⟨rfl, rfl, rfl⟩))) [x.from_, x.till, x.var] _ rfl rfl HGX.out.1 (by simp))) | (go_at_call 20; first | exact GrE.call hR (ror_any x.name _ HGX.out.2.1) | exact GrE.call hR (ror_any x.desc _ HGX.out.2.2.1))))); go_big_quiet_on; clear hne hR R hF F)) | (apply wpLex_blk rfl; (focus (intro x hx; go_simp; exact ⟨rfl, rfl⟩)); intro B hB; simp only [Act.put, blkVal, List.setIfInBounds_toArray, List.set_cons_zero, List.set_cons_succ]))
                  refine wpLex_nil ?_
                  intro w1 hw1
                  have F1 := hw1.fact 102 _ _ (.inr ⟨rfl, rfl, rfl⟩)
                  rw [hcat.out] at F1
                  have kk := (Below.refl W4.heap.size W4).drew.trans hw1.below
                  have zz : w.heap.size ≤ w1.heap.size := Nat.le_trans K4.out.size kk.size
                  have R5 := Lib.hid (R4.out.grow kk)
                  have K5 := Lib.hid (K4.out.trans (kk.mono K4.out.size))
                  have X5 := Lib.hid ((kk.block _ (Array.getElem?_eq_some_iff.1 X4.out).1).trans X4.out)
                  have FB := Lib.hid F1.2
                  clear hw1 F1 f1 f2 z1d kk R4 K4 X4 E4 HRX hcat
                  have hnn : (U3 ++ (y.slots.take i).map Li.slt).length ≤ 1000000000000 := by rw [List.length_append, List.length_map, List.length_take]; omega
                  go_wp2_with (at_builtin; refine wpList_appS rfl _ _ rfl w.heap.size _ _ rfl R5.out _ (Li.slt x) _ _ rfl FB.out hnn zz ?_; intro v2 w2 hr2 hh2; have R6 := Lib.hid hr2; have K6 := Lib.hid (K5.out.trans (hh2.below zz (fun k hk => (World.ownsRow.lt R5.out k hk).1))); have X6 := Lib.hid ((hh2.1.block _ (Array.getElem?_eq_some_iff.1 X5.out).1 (own_ne R5.out X5.out (by decide))).trans X5.out); clear hr2 hh2)
                  refine ⟨⟨i + 1, h1, rfl, ?_, K6.out, X6.out⟩, less_next h1⟩
                  rw [HSN.out, ← List.append_assoc]
                  exact R6.out
                · as_aux_lemma =>
                  have hie : i = y.slots.length := by omega
                  subst hie
                  rw [List.take_length] at hR0
                  obtain ⟨U4, hU4⟩ : ∃ z, z = U3 ++ y.slots.map Li.slt := ⟨_, rfl⟩
                  rw [← hU4] at hR0
                  have HU4 := Lib.hid hU4
                  have R4 := Lib.hid hR0
                  have K4 := Lib.hid hK0
                  have X4 := Lib.hid hX0
                  clear hU4 hR0 hK0 hX0
                  have HE := Lib.hid (show U4 = Li.code y by rw [HU4.out, HU3.out, HU2.out, HU1.out, HL0.out]; unfold Li.code; simp only [List.append_assoc, List.cons_append, List.nil_append])
                  go_wp2_with fail
                  go_ret
                  exact ⟨_, rfl, by rw [← HE.out]; exact R4.out, K4.out⟩
end Go.Proofs.YtpjafbinlklojaaDoor

/- Layer 35: a class's lines, whole. Printed by mk_lclass.py. -/
namespace Go.Proofs.YtpjafbinlklojaaDoor
open Go.RowKit Go.Deep

theorem inr_one {w : World} (cs : List Value) (y : Inr) (h : Inr.rd w cs y) : ∀ u ∈ cs, u.oneCell' = true := by
  obtain rfl := Inr.leafs h
  intro u hu
  simp only [List.mem_cons, List.not_mem_nil, or_false] at hu
  rcases hu with rfl | rfl | rfl | rfl <;> rfl
def Li.face (s : List UInt8) : List UInt8 := Li.line [[102, 97, 99, 101], Li.or s]
def Li.headL (c : Cls) : List (List UInt8) := [[99, 108, 97, 115, 115], Li.or c.this, [115, 117, 112, 101, 114], Li.or c.super, [118, 101, 114, 115, 105, 111, 110], Li.ints [c.major, c.minor], [102, 108, 97, 103, 115], Lib.itoa c.flags, Li.beside c.attrs]
def FaceOk (s : List UInt8) : Prop := s.length ≤ 100000000 ∧ (Li.face s).length ≤ 1000000000
def InrOk (x : Inr) : Prop := x.cls.length ≤ 100000000 ∧ x.outer.length ≤ 100000000 ∧ x.name.length ≤ 100000000 ∧ I64 x.flags ∧ (Li.inr x).length ≤ 1000000000
theorem method_len (m : Mbr) : (Li.method m).length ≤ m.blk := by
  have o0 : ∀ xs : List Cins, xs.length ≤ (xs.map Cins.blk).sum := fun xs => by
    induction xs with
    | nil => exact Nat.le_refl _
    | cons a xs ih => simp only [List.map_cons, List.sum_cons, List.length_cons]; unfold Cins.blk; unfold Cins.blk at ih; omega
  have o1 : ∀ xs : List Hnd, xs.length ≤ (xs.map Hnd.blk).sum := fun xs => by
    induction xs with
    | nil => exact Nat.le_refl _
    | cons a xs ih => simp only [List.map_cons, List.sum_cons, List.length_cons]; unfold Hnd.blk; unfold Hnd.blk at ih; omega
  have o2 : ∀ xs : List Lno, xs.length ≤ (xs.map Lno.blk).sum := fun xs => by
    induction xs with
    | nil => exact Nat.le_refl _
    | cons a xs ih => simp only [List.map_cons, List.sum_cons, List.length_cons]; unfold Lno.blk; unfold Lno.blk at ih; omega
  have o3 : ∀ xs : List Slt, xs.length ≤ (xs.map Slt.blk).sum := fun xs => by
    induction xs with
    | nil => exact Nat.le_refl _
    | cons a xs ih => simp only [List.map_cons, List.sum_cons, List.length_cons]; unfold Slt.blk; unfold Slt.blk at ih; omega
  have p0 := o0 m.attrs.code.ops
  have p1 := o1 m.attrs.code.handlers
  have p2 := o2 m.attrs.code.lines
  have p3 := o3 m.attrs.code.slots
  unfold Li.method Mbr.blk Atr.blk Cde.blk
  cases hasB m.attrs.has 1
  · simp only [List.length_cons, Bool.false_eq_true, if_false, List.length_nil]
    omega
  · simp only [if_true]
    unfold Li.code
    simp only [List.length_cons, List.length_append, List.length_map, opsFrom_len]
    omega
theorem methods_len : ∀ ms : List Mbr, (ms.flatMap Li.method).length ≤ (ms.map Mbr.blk).sum
  | [] => Nat.le_refl _
  | m :: ms => by
    have h1 := methods_len ms
    have h2 := method_len m
    simp only [List.flatMap_cons, List.length_append, List.map_cons, List.sum_cons]
    omega
theorem sum_take {α : Type} (f : α → Nat) (xs : List α) (i : Nat) : ((xs.take i).map f).sum ≤ (xs.map f).sum := by
  conv => rhs; rw [← List.take_append_drop i xs]
  rw [List.map_append, List.sum_append]
  omega
theorem meth_snoc {xs : List Mbr} {i : Nat} {x : Mbr} (h : xs[i]? = some x) : (xs.take (i + 1)).flatMap Li.method = (xs.take i).flatMap Li.method ++ Li.method x := by
  rw [take_snocI _ _ _ h, List.flatMap_append]
  simp
theorem cls_ok {y : Cls} (hg : y.good) (hb : y.blk ≤ 2000000) : y.this.length ≤ 100000000 ∧ y.super.length ≤ 100000000 ∧ (∀ n ∈ [y.major, y.minor], I64 n) ∧ I64 y.flags ∧ y.attrs.good ∧ y.attrs.blk ≤ 2000000 ∧ (Li.line (Li.headL y)).length ≤ 1000000000 ∧
    (∀ s ∈ y.faces, FaceOk s) ∧ (∀ x ∈ y.attrs.inners, InrOk x) ∧ (∀ x ∈ y.fields, x.good ∧ x.blk ≤ 2000000) ∧ (∀ x ∈ y.methods, x.good ∧ x.blk ≤ 2000000) ∧ y.faces.length ≤ 2000000 ∧ y.attrs.inners.length ≤ 2000000 ∧ y.fields.length ≤ 2000000 ∧ y.methods.length ≤ 2000000 ∧ (∀ i : Nat, ((y.methods.take i).flatMap Li.method).length ≤ 2000000) := by
  have h2 : ∀ n ∈ [y.major, y.minor], I64 n := fun n hn => by
    simp only [List.mem_cons, List.not_mem_nil, or_false] at hn
    rcases hn with rfl | rfl
    · exact hg.2.1
    · exact hg.1
  have hi := ints_len2 h2
  simp only [List.length_cons, List.length_nil] at hi
  have h3 := itoa_len hg.2.2.1
  have hag := hg.2.2.2.2.2.2.2.2
  have h4 := beside_len y.attrs hag
  have h5 := Li.or_len y.this
  have h6 := Li.or_len y.super
  have hm := sum_take Mbr.blk y.methods
  have hml := fun i => methods_len (y.methods.take i)
  have hc : y.this.length + y.super.length + (y.faces.map fun s => s.length + 1).sum + (y.fields.map Mbr.blk).sum + (y.methods.map Mbr.blk).sum + y.attrs.blk ≤ 2000000 := by
    unfold Cls.blk at hb
    omega
  have p0 := len_sum y.faces
  have o1 : ∀ xs : List Mbr, xs.length ≤ (xs.map Mbr.blk).sum := fun xs => by
    induction xs with
    | nil => exact Nat.le_refl _
    | cons a xs ih => simp only [List.map_cons, List.sum_cons, List.length_cons]; unfold Mbr.blk; unfold Mbr.blk at ih; omega
  have p1 := o1 y.fields
  have p2 := o1 y.methods
  have o3 : ∀ xs : List Inr, xs.length ≤ (xs.map Inr.blk).sum := fun xs => by
    induction xs with
    | nil => exact Nat.le_refl _
    | cons a xs ih => simp only [List.map_cons, List.sum_cons, List.length_cons]; unfold Inr.blk; unfold Inr.blk at ih; omega
  have p3 := o3 y.attrs.inners
  have hai : (y.attrs.inners.map Inr.blk).sum ≤ y.attrs.blk := by
    unfold Atr.blk
    omega
  refine ⟨by omega, by omega, h2, hg.2.2.1, hag, by omega, ?_, fun s hs => ?_, fun x hx => ?_, fun x hx => ⟨hg.2.2.2.2.2.2.1.2 x hx, ?_⟩, fun x hx => ⟨hg.2.2.2.2.2.2.2.1.2 x hx, ?_⟩, by omega, by omega, by omega, by omega, fun i => Nat.le_trans (hml i) (Nat.le_trans (hm i) (by omega))⟩
  · refine Nat.le_trans (line_sum _) ?_
    unfold Li.headL
    simp only [List.map_cons, List.map_nil, List.sum_cons, List.sum_nil, List.length_cons, List.length_nil]
    omega
  · have h7 := len_mem_sum hs
    have h8 := Li.or_len s
    refine ⟨by omega, Nat.le_trans (line_sum _) ?_⟩
    simp only [List.map_cons, List.map_nil, List.sum_cons, List.sum_nil, List.length_cons, List.length_nil]
    omega
  · have := mem_sum Inr.blk hx
    have hh := hag.2.2.2.2.1.2 x hx
    have hbx : x.blk ≤ 2000000 := by omega
    unfold Inr.blk at hbx
    have j1 := Li.or_len x.cls
    have j2 := Li.or_len x.outer
    have j3 := Li.or_len x.name
    have j4 := itoa_len hh.2.2.2
    refine ⟨by omega, by omega, by omega, hh.2.2.2, Nat.le_trans (line_sum _) ?_⟩
    simp only [List.map_cons, List.map_nil, List.sum_cons, List.sum_nil, List.length_cons, List.length_nil]
    omega
  · have := mem_sum Mbr.blk hx
    omega
  · have := mem_sum Mbr.blk hx
    omega
set_option maxHeartbeats 16000000 in
set_option maxRecDepth 100000 in
theorem class_any (w : World) (y : Cls) (cs : List Value) (hr : Cls.rd w cs y) (hg : y.good) (hb : y.blk ≤ 2000000) (ht : TabP w) :
    Calls Tryd.prog 7 #[.agg cs.toArray] w fun e w' => ∃ v, e = .returned v ∧ TRow w' w.heap.size v (Li.cls y) ∧ Below w.heap.size w w' := by
  obtain ⟨hth, hsu, h2, hfl, hag, hab, hln, hgf, hgi, hgd, hgm, hn1, hn2, hn3, hn4, hn5⟩ := cls_ok hg hb
  have HAR := Lib.hid (fun w' (k : Below w.heap.size w w') => Atr.rd_grow (show Atr.rd w ((cs.drop 8).take 18) y.attrs from hr.2.2.2.2.2.2.2.2.2) k)
  obtain ⟨B5, d5, B6, d6, B7, d7, C0, e0, C1, e1, C2, e2, C3, e3, C4, e4, C5, e5, rfl, ⟨s5, _⟩, ⟨s6, _⟩, ⟨s7, _⟩, _, _, _, _, _, ⟨s8, _⟩⟩ := Cls.leafs hr
  have HS5 := Lib.hid s5
  have HS6 := Lib.hid s6
  have HS7 := Lib.hid s7
  have HS8 := Lib.hid s8
  have HGHS5 := Lib.hid hgf
  have HGHS8 := Lib.hid hgi
  have HGHS6 := Lib.hid hgd
  have HGHS7 := Lib.hid hgm
  have HT := Lib.hid ht
  have H2 := Lib.hid h2
  have HLN := Lib.hid hln
  have HN5 := Lib.hid hn5
  clear hr s5 s6 s7 s8 hgf hgi hgd hgm ht h2 hln hg hb hn5
  have k1 := (Below.refl w.heap.size w).alloc (Nat.le_refl _) (.cells #[.int .i64 y.minor, .int .i64 y.major, .int .i64 y.flags, .string (bs y.this), .string (bs y.super), .slice B5 y.faces.length d5, .slice B6 y.fields.length d6, .slice B7 y.methods.length d7, .int .i64 y.attrs.has, .int .i64 y.attrs.code.stack, .int .i64 y.attrs.code.locals, .slice C0 y.attrs.code.ops.length e0, .slice C1 y.attrs.code.handlers.length e1, .int .i64 y.attrs.code.has, .slice C2 y.attrs.code.lines.length e2, .slice C3 y.attrs.code.slots.length e3, .int .i64 y.attrs.value.tag, .string (bs y.attrs.value.text), .int .u64 y.attrs.value.bits, .string (bs y.attrs.value.cls), .string (bs y.attrs.value.name), .string (bs y.attrs.value.desc), .slice C4 y.attrs.throws.length e4, .slice C5 y.attrs.inners.length e5, .string (bs y.attrs.signature), .string (bs y.attrs.source)] 37)
  have X0 := Lib.hid (heap_alloc_new w (.cells #[.int .i64 y.minor, .int .i64 y.major, .int .i64 y.flags, .string (bs y.this), .string (bs y.super), .slice B5 y.faces.length d5, .slice B6 y.fields.length d6, .slice B7 y.methods.length d7, .int .i64 y.attrs.has, .int .i64 y.attrs.code.stack, .int .i64 y.attrs.code.locals, .slice C0 y.attrs.code.ops.length e0, .slice C1 y.attrs.code.handlers.length e1, .int .i64 y.attrs.code.has, .slice C2 y.attrs.code.lines.length e2, .slice C3 y.attrs.code.slots.length e3, .int .i64 y.attrs.value.tag, .string (bs y.attrs.value.text), .int .u64 y.attrs.value.bits, .string (bs y.attrs.value.cls), .string (bs y.attrs.value.name), .string (bs y.attrs.value.desc), .slice C4 y.attrs.throws.length e4, .slice C5 y.attrs.inners.length e5, .string (bs y.attrs.signature), .string (bs y.attrs.source)] 37))
  have K0 := Lib.hid k1
  clear k1
  go_enter Tryd.func7, Tryd.ntmps7
  go_upto_region 1 with fail
  generalize w.alloc (.cells #[.int .i64 y.minor, .int .i64 y.major, .int .i64 y.flags, .string (bs y.this), .string (bs y.super), .slice B5 y.faces.length d5, .slice B6 y.fields.length d6, .slice B7 y.methods.length d7, .int .i64 y.attrs.has, .int .i64 y.attrs.code.stack, .int .i64 y.attrs.code.locals, .slice C0 y.attrs.code.ops.length e0, .slice C1 y.attrs.code.handlers.length e1, .int .i64 y.attrs.code.has, .slice C2 y.attrs.code.lines.length e2, .slice C3 y.attrs.code.slots.length e3, .int .i64 y.attrs.value.tag, .string (bs y.attrs.value.text), .int .u64 y.attrs.value.bits, .string (bs y.attrs.value.cls), .string (bs y.attrs.value.name), .string (bs y.attrs.value.desc), .slice C4 y.attrs.throws.length e4, .slice C5 y.attrs.inners.length e5, .string (bs y.attrs.signature), .string (bs y.attrs.source)] 37) = W at X0 K0 ⊢
  obtain ⟨f1, f2⟩ := blk_facts X0.out
  have z1 : w.heap.size < W.heap.size := (Array.getElem?_eq_some_iff.1 X0.out).1
  have z1d : w.heap.size < W.drew.heap.size := z1
  have HCA := Lib.hid (show CellsAt W.drew w.heap.size 8 [.int .i64 y.attrs.has, .int .i64 y.attrs.code.stack, .int .i64 y.attrs.code.locals, .slice C0 y.attrs.code.ops.length e0, .slice C1 y.attrs.code.handlers.length e1, .int .i64 y.attrs.code.has, .slice C2 y.attrs.code.lines.length e2, .slice C3 y.attrs.code.slots.length e3, .int .i64 y.attrs.value.tag, .string (bs y.attrs.value.text), .int .u64 y.attrs.value.bits, .string (bs y.attrs.value.cls), .string (bs y.attrs.value.name), .string (bs y.attrs.value.desc), .slice C4 y.attrs.throws.length e4, .slice C5 y.attrs.inners.length e5, .string (bs y.attrs.signature), .string (bs y.attrs.source)] from cellsAt_block (w := W.drew) X0.out 8 18)
  have hcl18 : (Tryd.prog.info? 35).map (·.size) = some 18 := by kernel_rfl
  have HT1 := Lib.hid (tab_below HT.out K0.out.drew)
  have HAR1 := Lib.hid (HAR.out W.drew K0.out.drew)
  refine wp_region_ord 22 (by kernel_rfl) (by kernel_rfl) (fun _ _ d _ _ h => by cases d <;> exact h) ?_
  simp only [List.take_succ_cons, List.take_zero, List.drop_succ_cons, List.drop_zero]
  repeat (first | ((refine wpLex_load rfl 35 _ rfl w.heap.size 8 rfl _ HCA.out z1d _ Tryd.underlying35 rfl hcl18 ?_); simp only [Act.put, List.setIfInBounds_toArray, List.set_cons_zero, List.set_cons_succ]) | (refine wpLex_skip rfl ?_; simp only [Act.put, List.setIfInBounds_toArray, List.set_cons_zero, List.set_cons_succ]) | (refine wpLex_fix rfl ?_; intro F hF R hR hne K hK; go_big_quiet_op; first | (go_big_quiet_on; clear hne hR R hF F) | (apply Exists.intro; refine ⟨fun g => ?_, ?_⟩; (((first | (rw [GrE.cell g _ _ z1d]; go_simp; first | exact ⟨rfl, rfl⟩ | rfl) | (go_simp; (repeat (simp only [GrE.cell g _ _ z1d]; go_simp)); first | exact ⟨rfl, rfl⟩ | rfl) | (go_at_call 13; exact GrE.call hR (line_blk (GrE.blk g (hF.out _ _ _ (by decide) (.inr ⟨rfl, rfl, rfl⟩))) [[99, 108, 97, 115, 115], Li.or y.this, [115, 117, 112, 101, 114], Li.or y.super, [118, 101, 114, 115, 105, 111, 110], Li.ints [y.major, y.minor], [102, 108, 97, 103, 115], Lib.itoa y.flags, Li.beside y.attrs] _ rfl rfl (by simp) HLN.out)) | (go_at_call 15; exact GrE.call hR (ints_blk (GrE.blk g (hF.out _ _ _ (by decide) (.inr ⟨rfl, rfl, rfl⟩))) [y.major, y.minor] _ rfl rfl H2.out (by simp) (tab_below HT1.out (GrE.below g)))) | (go_at_call 16; exact GrE.call hR (itoa_any y.flags _ hfl (tab_below HT1.out (GrE.below g)))) | (go_at_call 14; first | exact GrE.call hR (or_any y.this _ hth) | exact GrE.call hR (or_any y.super _ hsu)) | (go_at_call 17; exact GrE.call hR (beside_any _ y.attrs _ (Atr.rd_grow HAR1.out (GrE.below g)) hag hab (tab_below HT1.out (GrE.below g))))))); go_big_quiet_on; clear hne hR R hF F)) | (apply wpLex_blk rfl; (focus (intro x hx; go_simp; exact ⟨rfl, rfl⟩)); intro B hB; simp only [Act.put, blkVal, List.setIfInBounds_toArray, List.set_cons_zero, List.set_cons_succ]))
  refine wpLex_nil ?_
  intro w1 hw1
  have F1 := hw1.fact 32 _ _ (.inr ⟨rfl, rfl, rfl⟩)
  have kk := (Below.refl W.heap.size W).drew.trans hw1.below
  have K1 := Lib.hid (K0.out.trans (kk.mono K0.out.size))
  have X1 := Lib.hid ((kk.block _ z1).trans X0.out)
  have R1 := Lib.hid (trow_blk (base := w.heap.size) F1.2 (Nat.le_trans (Nat.le_of_lt z1) F1.1) [Li.line [[99, 108, 97, 115, 115], Li.or y.this, [115, 117, 112, 101, 114], Li.or y.super, [118, 101, 114, 115, 105, 111, 110], Li.ints [y.major, y.minor], [102, 108, 97, 103, 115], Lib.itoa y.flags, Li.beside y.attrs]] 1 rfl rfl (by unfold maxLen; omega))
  clear hw1 F1 f1 f2 z1 z1d kk K0 X0 HCA hcl18 HT1 HAR1 HAR
  obtain ⟨L0, hL0⟩ : ∃ z, z = Li.line [[99, 108, 97, 115, 115], Li.or y.this, [115, 117, 112, 101, 114], Li.or y.super, [118, 101, 114, 115, 105, 111, 110], Li.ints [y.major, y.minor], [102, 108, 97, 103, 115], Lib.itoa y.flags, Li.beside y.attrs] := ⟨_, rfl⟩
  rw [← hL0] at R1
  have HL0 := Lib.hid hL0
  clear hL0
  have e3 : w1.cell? ⟨w.heap.size, 5, none⟩ = some (.slice B5 y.faces.length d5) := by rw [Lib.cell_of_heap X1.out]; rfl
  have hq4 := (Array.getElem?_eq_some_iff.1 X1.out).1
  go_upto_region 3 with fail
  clear e3 hq4
  go_loopw [3, 36] (fun s3 sI wr => ∃ i : Nat, i ≤ y.faces.length ∧ sI = .int .i64 i ∧ TRow wr w.heap.size s3 ([L0] ++ (y.faces.take i).map Li.face) ∧ Below w.heap.size w wr ∧ wr.heap[w.heap.size]? = some (.cells #[.int .i64 y.minor, .int .i64 y.major, .int .i64 y.flags, .string (bs y.this), .string (bs y.super), .slice B5 y.faces.length d5, .slice B6 y.fields.length d6, .slice B7 y.methods.length d7, .int .i64 y.attrs.has, .int .i64 y.attrs.code.stack, .int .i64 y.attrs.code.locals, .slice C0 y.attrs.code.ops.length e0, .slice C1 y.attrs.code.handlers.length e1, .int .i64 y.attrs.code.has, .slice C2 y.attrs.code.lines.length e2, .slice C3 y.attrs.code.slots.length e3, .int .i64 y.attrs.value.tag, .string (bs y.attrs.value.text), .int .u64 y.attrs.value.bits, .string (bs y.attrs.value.cls), .string (bs y.attrs.value.name), .string (bs y.attrs.value.desc), .slice C4 y.attrs.throws.length e4, .slice C5 y.attrs.inners.length e5, .string (bs y.attrs.signature), .string (bs y.attrs.source)] 37 (0, 0))) (fun _ sI _ => y.faces.length - (intOf sI).toNat)
  case atStart => exact ⟨0, Nat.zero_le _, rfl, by simpa using R1.out, K1.out, X1.out⟩
  case round =>
    obtain ⟨i, hil, rfl, hR0, hK0, hX0⟩ := hrel
    by_cases h1 : i < y.faces.length
    · as_aux_lemma =>
      obtain ⟨g, o, x, rfl, hgw, hx, hc⟩ := HS5.out.at_ h1
      have HGX := Lib.hid (HGHS5.out x (List.mem_of_getElem? hx))
      have HSN := Lib.hid (map_snoc Li.face hx)
      have hc2 : wr.cell? ⟨g, o + i, none⟩ = some (.string (bs x)) := by rw [World.cell?_of_block (hK0.block g hgw)]; exact hc
      have hgr : g < wr.heap.size := Nat.lt_of_lt_of_le hgw hK0.size
      have R4 := Lib.hid hR0
      have K4 := Lib.hid hK0
      have X4 := Lib.hid hX0
      have CO := Lib.hid (or_any x wr HGX.out.1)
      clear hR0 hK0 hX0 hc hgw
      go_upto_region 5 with fail
      go_upto_region 6 with fail
      refine CO.out.mono ?_
      rintro e w5 ⟨rfl, hb5⟩
      have k6 := (Below.refl w5.heap.size w5).alloc (Nat.le_refl _) (.cells #[.string ⟨#[102, 97, 99, 101]⟩, .string (bs (Li.or x))] 9)
      have CL := Lib.hid (line_blk (heap_alloc_new w5 (.cells #[.string ⟨#[102, 97, 99, 101]⟩, .string (bs (Li.or x))] 9)) [[102, 97, 99, 101], Li.or x] 2 rfl rfl (by simp) HGX.out.2)
      have K6 := Lib.hid (hb5.trans (k6.mono hb5.size))
      clear k6 hb5 CO hc2 hgr
      go_upto_region 6 with fail
      refine CL.out.mono ?_
      rintro e w6 ⟨rfl, hb6⟩
      have kk := K6.out.trans (hb6.mono K6.out.size)
      have hfold : Li.line [[102, 97, 99, 101], Li.or x] = Li.face x := rfl
      rw [hfold]
      clear hfold
      have k7 := (Below.refl w6.heap.size w6).alloc (Nat.le_refl _) (.cells #[.string (bs (Li.face x))] 9)
      have kk7 := kk.trans (k7.mono kk.size)
      have zz := Nat.le_trans K4.out.size kk7.size
      have R5 := Lib.hid (R4.out.grow kk7)
      have K5 := Lib.hid (K4.out.trans (kk7.mono K4.out.size))
      have X5 := Lib.hid ((kk7.block _ (Array.getElem?_eq_some_iff.1 X4.out).1).trans X4.out)
      have FB := Lib.hid (heap_alloc_new w6 (.cells #[.string (bs (Li.face x))] 9))
      clear hb6 k7 kk kk7 CL K6 R4 K4 X4
      have hnn : ([L0] ++ (y.faces.take i).map Li.face).length ≤ 1000000000000 := by rw [List.length_append, List.length_map, List.length_take, List.length_singleton]; omega
      go_wp2_with (at_builtin; refine wpList_appS rfl _ _ rfl w.heap.size _ _ rfl R5.out _ (Li.face x) _ _ rfl FB.out hnn zz ?_; intro v2 w2 hr2 hh2; have R6 := Lib.hid hr2; have K6 := Lib.hid (K5.out.trans (hh2.below zz (fun k hk => (World.ownsRow.lt R5.out k hk).1))); have X6 := Lib.hid ((hh2.1.block _ (Array.getElem?_eq_some_iff.1 X5.out).1 (own_ne R5.out X5.out (by decide))).trans X5.out); clear hr2 hh2)
      refine ⟨⟨i + 1, h1, rfl, ?_, K6.out, X6.out⟩, less_next h1⟩
      rw [HSN.out, ← List.append_assoc]
      exact R6.out
    · as_aux_lemma =>
      have hie : i = y.faces.length := by omega
      subst hie
      rw [List.take_length] at hR0
      obtain ⟨U2, hU2⟩ : ∃ z, z = [L0] ++ y.faces.map Li.face := ⟨_, rfl⟩
      rw [← hU2] at hR0
      have HU2 := Lib.hid hU2
      have R2 := Lib.hid hR0
      have K2 := Lib.hid hK0
      have X2 := Lib.hid hX0
      clear hU2 hR0 hK0 hX0
      have hu2 : U2.length ≤ 10000000 := by rw [HU2.out, List.length_append, List.length_map, List.length_singleton]; omega
      have e3 : wr.cell? ⟨w.heap.size, 23, none⟩ = some (.slice C5 y.attrs.inners.length e5) := by rw [Lib.cell_of_heap X2.out]; rfl
      have hq4 := (Array.getElem?_eq_some_iff.1 X2.out).1
      go_upto_region 8 with fail
      clear e3 hq4
      go_loopw [3, 52] (fun s3 sI wr => ∃ i : Nat, i ≤ y.attrs.inners.length ∧ sI = .int .i64 i ∧ TRow wr w.heap.size s3 (U2 ++ (y.attrs.inners.take i).map Li.inr) ∧ Below w.heap.size w wr ∧ wr.heap[w.heap.size]? = some (.cells #[.int .i64 y.minor, .int .i64 y.major, .int .i64 y.flags, .string (bs y.this), .string (bs y.super), .slice B5 y.faces.length d5, .slice B6 y.fields.length d6, .slice B7 y.methods.length d7, .int .i64 y.attrs.has, .int .i64 y.attrs.code.stack, .int .i64 y.attrs.code.locals, .slice C0 y.attrs.code.ops.length e0, .slice C1 y.attrs.code.handlers.length e1, .int .i64 y.attrs.code.has, .slice C2 y.attrs.code.lines.length e2, .slice C3 y.attrs.code.slots.length e3, .int .i64 y.attrs.value.tag, .string (bs y.attrs.value.text), .int .u64 y.attrs.value.bits, .string (bs y.attrs.value.cls), .string (bs y.attrs.value.name), .string (bs y.attrs.value.desc), .slice C4 y.attrs.throws.length e4, .slice C5 y.attrs.inners.length e5, .string (bs y.attrs.signature), .string (bs y.attrs.source)] 37 (0, 0))) (fun _ sI _ => y.attrs.inners.length - (intOf sI).toNat)
      case atStart => exact ⟨0, Nat.zero_le _, rfl, by simpa using R2.out, K2.out, X2.out⟩
      case round =>
        obtain ⟨i, hil, rfl, hR0, hK0, hX0⟩ := hrel
        by_cases h1 : i < y.attrs.inners.length
        · as_aux_lemma =>
          obtain ⟨g, o, x, cx, rfl, hgw, hx, hrx, hcl, hcx⟩ := HS8.out.at_ h1
          have HGX := Lib.hid (HGHS8.out x (List.mem_of_getElem? hx))
          have HSN := Lib.hid (map_snoc Li.inr hx)
          have hcw := hcx.grow hK0 hgw
          have HONE := Lib.hid (inr_one cx x hrx)
          have HRX := Lib.hid (fun w' (k : Below w.heap.size w w') => Inr.rd_grow hrx k)
          obtain rfl := Inr.leafs hrx
          have hgr : g < wr.heap.size := Nat.lt_of_lt_of_le hgw hK0.size
          have HCW := Lib.hid hcw
          have hcl1 : (Tryd.prog.info? 57).map (·.size) = some 4 := by kernel_rfl
          have k4 := (Below.refl wr.heap.size wr).alloc (Nat.le_refl _) (.cells #[.string (bs x.cls), .string (bs x.outer), .string (bs x.name), .int .i64 x.flags] 57)
          have E4 := Lib.hid (heap_alloc_new wr (.cells #[.string (bs x.cls), .string (bs x.outer), .string (bs x.name), .int .i64 x.flags] 57))
          have R4 := Lib.hid (hR0.grow k4)
          have K4 := Lib.hid (hK0.trans (k4.mono hK0.size))
          have X4 := Lib.hid ((k4.block w.heap.size (Array.getElem?_eq_some_iff.1 hX0).1).trans hX0)
          clear hR0 hK0 hX0 hcw hcx hrx hcl k4 hgw
          go_upto_region 10 with (first | (refine wpList_load_cells rfl 57 _ rfl g (o + i * 4) rfl _ HCW.out _ Tryd.underlying57 rfl hcl1 ?_) | (refine wpList_store_fresh rfl 57 _ _ rfl wr _ [.string (bs x.cls), .string (bs x.outer), .string (bs x.name), .int .i64 x.flags] 57 rfl rfl hcl1 rfl HONE.out ?_))
          generalize hW4 : wr.alloc (.cells #[.string (bs x.cls), .string (bs x.outer), .string (bs x.name), .int .i64 x.flags] 57) = W4 at E4 R4 K4 X4 ⊢
          have z4 : wr.heap.size < W4.heap.size := (Array.getElem?_eq_some_iff.1 E4.out).1
          clear hW4 hgr HCW HONE
          have HIF := Lib.hid HGX.out.2.2.2.1
          obtain ⟨f1, f2⟩ := blk_facts E4.out
          have z1d : wr.heap.size < W4.drew.heap.size := z4
          have HT1 := Lib.hid (tab_below HT.out K4.out.drew)
          dsimp only [Act.put]
          refine wp_region_ord 16 (by kernel_rfl) (by kernel_rfl) (fun _ _ d _ _ h => by cases d <;> exact h) ?_
          simp only [List.take_succ_cons, List.take_zero, List.drop_succ_cons, List.drop_zero]
          repeat (first | (refine wpLex_skip rfl ?_; simp only [Act.put, List.setIfInBounds_toArray, List.set_cons_zero, List.set_cons_succ]) | (refine wpLex_fix rfl ?_; intro F hF R hR hne K hK; go_big_quiet_op; first | (go_big_quiet_on; clear hne hR R hF F) | (apply Exists.intro; refine ⟨fun g => ?_, ?_⟩; (((first | (rw [GrE.cell g _ _ z1d]; go_simp; first | exact ⟨rfl, rfl⟩ | rfl) | (go_simp; (repeat (simp only [GrE.cell g _ _ z1d]; go_simp)); first | exact ⟨rfl, rfl⟩ | rfl) | (go_at_call 16; exact GrE.call hR (itoa_any x.flags _ HIF.out (tab_below HT1.out (GrE.below g)))) | (go_at_call 14; first | exact GrE.call hR (or_any x.cls _ HGX.out.1) | exact GrE.call hR (or_any x.outer _ HGX.out.2.1) | exact GrE.call hR (or_any x.name _ HGX.out.2.2.1)) | (go_at_call 13; exact GrE.call hR (line_blk (GrE.blk g (hF.out _ _ _ (by decide) (.inr ⟨rfl, rfl, rfl⟩))) [[105, 110, 110, 101, 114], Li.or x.cls, Li.or x.outer, Li.or x.name, Lib.itoa x.flags] _ rfl rfl (by simp) HGX.out.2.2.2.2))))); go_big_quiet_on; clear hne hR R hF F)) | (apply wpLex_blk rfl; (focus (intro x hx; go_simp; exact ⟨rfl, rfl⟩)); intro B hB; simp only [Act.put, blkVal, List.setIfInBounds_toArray, List.set_cons_zero, List.set_cons_succ]))
          refine wpLex_nil ?_
          intro w1 hw1
          have F1 := hw1.fact 71 _ _ (.inr ⟨rfl, rfl, rfl⟩)
          have kk := (Below.refl W4.heap.size W4).drew.trans hw1.below
          have zz : w.heap.size ≤ w1.heap.size := Nat.le_trans K4.out.size kk.size
          have R5 := Lib.hid (R4.out.grow kk)
          have K5 := Lib.hid (K4.out.trans (kk.mono K4.out.size))
          have X5 := Lib.hid ((kk.block _ (Array.getElem?_eq_some_iff.1 X4.out).1).trans X4.out)
          have FB := Lib.hid F1.2
          clear hw1 F1 f1 f2 z1d kk R4 K4 X4 E4 HRX
          have hnn : (U2 ++ (y.attrs.inners.take i).map Li.inr).length ≤ 1000000000000 := by rw [List.length_append, List.length_map, List.length_take]; omega
          go_wp2_with (at_builtin; refine wpList_appS rfl _ _ rfl w.heap.size _ _ rfl R5.out _ (Li.inr x) _ _ rfl FB.out hnn zz ?_; intro v2 w2 hr2 hh2; have R6 := Lib.hid hr2; have K6 := Lib.hid (K5.out.trans (hh2.below zz (fun k hk => (World.ownsRow.lt R5.out k hk).1))); have X6 := Lib.hid ((hh2.1.block _ (Array.getElem?_eq_some_iff.1 X5.out).1 (own_ne R5.out X5.out (by decide))).trans X5.out); clear hr2 hh2)
          refine ⟨⟨i + 1, h1, rfl, ?_, K6.out, X6.out⟩, less_next h1⟩
          rw [HSN.out, ← List.append_assoc]
          exact R6.out
        · as_aux_lemma =>
          have hie : i = y.attrs.inners.length := by omega
          subst hie
          rw [List.take_length] at hR0
          obtain ⟨U3, hU3⟩ : ∃ z, z = U2 ++ y.attrs.inners.map Li.inr := ⟨_, rfl⟩
          rw [← hU3] at hR0
          have HU3 := Lib.hid hU3
          have R3 := Lib.hid hR0
          have K3 := Lib.hid hK0
          have X3 := Lib.hid hX0
          clear hU3 hR0 hK0 hX0
          have hu3 : U3.length ≤ 20000000 := by rw [HU3.out, List.length_append, List.length_map]; omega
          have e3 : wr.cell? ⟨w.heap.size, 6, none⟩ = some (.slice B6 y.fields.length d6) := by rw [Lib.cell_of_heap X3.out]; rfl
          have hq4 := (Array.getElem?_eq_some_iff.1 X3.out).1
          go_upto_region 13 with fail
          clear e3 hq4
          go_loopw [3, 77] (fun s3 sI wr => ∃ i : Nat, i ≤ y.fields.length ∧ sI = .int .i64 i ∧ TRow wr w.heap.size s3 (U3 ++ (y.fields.take i).map (Li.member [102, 105, 101, 108, 100])) ∧ Below w.heap.size w wr ∧ wr.heap[w.heap.size]? = some (.cells #[.int .i64 y.minor, .int .i64 y.major, .int .i64 y.flags, .string (bs y.this), .string (bs y.super), .slice B5 y.faces.length d5, .slice B6 y.fields.length d6, .slice B7 y.methods.length d7, .int .i64 y.attrs.has, .int .i64 y.attrs.code.stack, .int .i64 y.attrs.code.locals, .slice C0 y.attrs.code.ops.length e0, .slice C1 y.attrs.code.handlers.length e1, .int .i64 y.attrs.code.has, .slice C2 y.attrs.code.lines.length e2, .slice C3 y.attrs.code.slots.length e3, .int .i64 y.attrs.value.tag, .string (bs y.attrs.value.text), .int .u64 y.attrs.value.bits, .string (bs y.attrs.value.cls), .string (bs y.attrs.value.name), .string (bs y.attrs.value.desc), .slice C4 y.attrs.throws.length e4, .slice C5 y.attrs.inners.length e5, .string (bs y.attrs.signature), .string (bs y.attrs.source)] 37 (0, 0))) (fun _ sI _ => y.fields.length - (intOf sI).toNat)
          case atStart => exact ⟨0, Nat.zero_le _, rfl, by simpa using R3.out, K3.out, X3.out⟩
          case round =>
            obtain ⟨i, hil, rfl, hR0, hK0, hX0⟩ := hrel
            by_cases h1 : i < y.fields.length
            · as_aux_lemma =>
              obtain ⟨g, o, x, cx, rfl, hgw, hx, hrx, hcl, hcx⟩ := HS6.out.at_ h1
              have HGX := Lib.hid (HGHS6.out x (List.mem_of_getElem? hx))
              have HSN := Lib.hid (map_snoc (Li.member [102, 105, 101, 108, 100]) hx)
              have hcw := hcx.grow hK0 hgw
              have HONE := Lib.hid (mbr_one cx x hrx)
              have HRX := Lib.hid (fun w' (k : Below w.heap.size w w') => Mbr.rd_grow hrx k)
              obtain ⟨Ma0, mc0, Ma1, mc1, Ma2, mc2, Ma3, mc3, Ma4, mc4, Ma5, mc5, rfl, _⟩ := Mbr.leafs hrx
              have hgr : g < wr.heap.size := Nat.lt_of_lt_of_le hgw hK0.size
              have HCW := Lib.hid hcw
              have hcl1 : (Tryd.prog.info? 59).map (·.size) = some 21 := by kernel_rfl
              have k4 := (Below.refl wr.heap.size wr).alloc (Nat.le_refl _) (.cells #[.int .i64 x.flags, .string (bs x.name), .string (bs x.desc), .int .i64 x.attrs.has, .int .i64 x.attrs.code.stack, .int .i64 x.attrs.code.locals, .slice Ma0 x.attrs.code.ops.length mc0, .slice Ma1 x.attrs.code.handlers.length mc1, .int .i64 x.attrs.code.has, .slice Ma2 x.attrs.code.lines.length mc2, .slice Ma3 x.attrs.code.slots.length mc3, .int .i64 x.attrs.value.tag, .string (bs x.attrs.value.text), .int .u64 x.attrs.value.bits, .string (bs x.attrs.value.cls), .string (bs x.attrs.value.name), .string (bs x.attrs.value.desc), .slice Ma4 x.attrs.throws.length mc4, .slice Ma5 x.attrs.inners.length mc5, .string (bs x.attrs.signature), .string (bs x.attrs.source)] 59)
              have E4 := Lib.hid (heap_alloc_new wr (.cells #[.int .i64 x.flags, .string (bs x.name), .string (bs x.desc), .int .i64 x.attrs.has, .int .i64 x.attrs.code.stack, .int .i64 x.attrs.code.locals, .slice Ma0 x.attrs.code.ops.length mc0, .slice Ma1 x.attrs.code.handlers.length mc1, .int .i64 x.attrs.code.has, .slice Ma2 x.attrs.code.lines.length mc2, .slice Ma3 x.attrs.code.slots.length mc3, .int .i64 x.attrs.value.tag, .string (bs x.attrs.value.text), .int .u64 x.attrs.value.bits, .string (bs x.attrs.value.cls), .string (bs x.attrs.value.name), .string (bs x.attrs.value.desc), .slice Ma4 x.attrs.throws.length mc4, .slice Ma5 x.attrs.inners.length mc5, .string (bs x.attrs.signature), .string (bs x.attrs.source)] 59))
              have R4 := Lib.hid (hR0.grow k4)
              have K4 := Lib.hid (hK0.trans (k4.mono hK0.size))
              have X4 := Lib.hid ((k4.block w.heap.size (Array.getElem?_eq_some_iff.1 hX0).1).trans hX0)
              clear hR0 hK0 hX0 hcw hcx hrx hcl k4 hgw
              go_upto_region 15 with (first | (refine wpList_load_cells rfl 59 _ rfl g (o + i * 21) rfl _ HCW.out _ Tryd.underlying59 rfl hcl1 ?_) | (refine wpList_store_fresh rfl 59 _ _ rfl wr _ [.int .i64 x.flags, .string (bs x.name), .string (bs x.desc), .int .i64 x.attrs.has, .int .i64 x.attrs.code.stack, .int .i64 x.attrs.code.locals, .slice Ma0 x.attrs.code.ops.length mc0, .slice Ma1 x.attrs.code.handlers.length mc1, .int .i64 x.attrs.code.has, .slice Ma2 x.attrs.code.lines.length mc2, .slice Ma3 x.attrs.code.slots.length mc3, .int .i64 x.attrs.value.tag, .string (bs x.attrs.value.text), .int .u64 x.attrs.value.bits, .string (bs x.attrs.value.cls), .string (bs x.attrs.value.name), .string (bs x.attrs.value.desc), .slice Ma4 x.attrs.throws.length mc4, .slice Ma5 x.attrs.inners.length mc5, .string (bs x.attrs.signature), .string (bs x.attrs.source)] 59 rfl rfl hcl1 rfl HONE.out ?_))
              generalize hW4 : wr.alloc (.cells #[.int .i64 x.flags, .string (bs x.name), .string (bs x.desc), .int .i64 x.attrs.has, .int .i64 x.attrs.code.stack, .int .i64 x.attrs.code.locals, .slice Ma0 x.attrs.code.ops.length mc0, .slice Ma1 x.attrs.code.handlers.length mc1, .int .i64 x.attrs.code.has, .slice Ma2 x.attrs.code.lines.length mc2, .slice Ma3 x.attrs.code.slots.length mc3, .int .i64 x.attrs.value.tag, .string (bs x.attrs.value.text), .int .u64 x.attrs.value.bits, .string (bs x.attrs.value.cls), .string (bs x.attrs.value.name), .string (bs x.attrs.value.desc), .slice Ma4 x.attrs.throws.length mc4, .slice Ma5 x.attrs.inners.length mc5, .string (bs x.attrs.signature), .string (bs x.attrs.source)] 59) = W4 at E4 R4 K4 X4 ⊢
              have z4 : wr.heap.size < W4.heap.size := (Array.getElem?_eq_some_iff.1 E4.out).1
              clear hW4 hgr HCW HONE
              have hcl2 : (Tryd.prog.info? 59).map (·.size) = some 21 := by kernel_rfl
              have HCX := Lib.hid (show CellsAt W4 wr.heap.size 0 [.int .i64 x.flags, .string (bs x.name), .string (bs x.desc), .int .i64 x.attrs.has, .int .i64 x.attrs.code.stack, .int .i64 x.attrs.code.locals, .slice Ma0 x.attrs.code.ops.length mc0, .slice Ma1 x.attrs.code.handlers.length mc1, .int .i64 x.attrs.code.has, .slice Ma2 x.attrs.code.lines.length mc2, .slice Ma3 x.attrs.code.slots.length mc3, .int .i64 x.attrs.value.tag, .string (bs x.attrs.value.text), .int .u64 x.attrs.value.bits, .string (bs x.attrs.value.cls), .string (bs x.attrs.value.name), .string (bs x.attrs.value.desc), .slice Ma4 x.attrs.throws.length mc4, .slice Ma5 x.attrs.inners.length mc5, .string (bs x.attrs.signature), .string (bs x.attrs.source)] from cellsAt_block E4.out 0 21)
              have CX := Lib.hid (member_any W4 [102, 105, 101, 108, 100] (by decide) x _ (HRX.out W4 K4.out) HGX.out.1 HGX.out.2 (tab_below HT.out K4.out))
              go_upto_region 16 with (refine wpList_load_cells rfl 59 _ rfl wr.heap.size 0 rfl _ HCX.out _ Tryd.underlying59 rfl hcl2 ?_)
              refine CX.out.mono ?_
              rintro e w1 ⟨rfl, hb1⟩
              have k5 := (Below.refl w1.heap.size w1).alloc (Nat.le_refl _) (.cells #[.string (bs (Li.member [102, 105, 101, 108, 100] x))] 9)
              have kk := hb1.trans (k5.mono hb1.size)
              have zz := Nat.le_trans K4.out.size kk.size
              have R5 := Lib.hid (R4.out.grow kk)
              have K5 := Lib.hid (K4.out.trans (kk.mono K4.out.size))
              have X5 := Lib.hid ((kk.block _ (Array.getElem?_eq_some_iff.1 X4.out).1).trans X4.out)
              have E5 := Lib.hid ((kk.block _ z4).trans E4.out)
              have FB := Lib.hid (heap_alloc_new w1 (.cells #[.string (bs (Li.member [102, 105, 101, 108, 100] x))] 9))
              clear hb1 k5 kk CX HCX hcl2 R4 K4 X4 E4
              have hnn : (U3 ++ (y.fields.take i).map (Li.member [102, 105, 101, 108, 100])).length ≤ 1000000000000 := by rw [List.length_append, List.length_map, List.length_take]; omega
              go_wp2_with (at_builtin; refine wpList_appS rfl _ _ rfl w.heap.size _ _ rfl R5.out _ (Li.member [102, 105, 101, 108, 100] x) _ _ rfl FB.out hnn zz ?_; intro v2 w2 hr2 hh2; have R6 := Lib.hid hr2; have K6 := Lib.hid (K5.out.trans (hh2.below zz (fun k hk => (World.ownsRow.lt R5.out k hk).1))); have X6 := Lib.hid ((hh2.1.block _ (Array.getElem?_eq_some_iff.1 X5.out).1 (own_ne R5.out X5.out (by decide))).trans X5.out); clear hr2 hh2)
              refine ⟨⟨i + 1, h1, rfl, ?_, K6.out, X6.out⟩, less_next h1⟩
              rw [HSN.out, ← List.append_assoc]
              exact R6.out
            · as_aux_lemma =>
              have hie : i = y.fields.length := by omega
              subst hie
              rw [List.take_length] at hR0
              obtain ⟨U4, hU4⟩ : ∃ z, z = U3 ++ y.fields.map (Li.member [102, 105, 101, 108, 100]) := ⟨_, rfl⟩
              rw [← hU4] at hR0
              have HU4 := Lib.hid hU4
              have R4 := Lib.hid hR0
              have K4 := Lib.hid hK0
              have X4 := Lib.hid hX0
              clear hU4 hR0 hK0 hX0
              have hu4 : U4.length ≤ 30000000 := by rw [HU4.out, List.length_append, List.length_map]; omega
              have e3 : wr.cell? ⟨w.heap.size, 7, none⟩ = some (.slice B7 y.methods.length d7) := by rw [Lib.cell_of_heap X4.out]; rfl
              have hq4 := (Array.getElem?_eq_some_iff.1 X4.out).1
              go_upto_region 18 with fail
              clear e3 hq4
              go_loopw [3, 90] (fun s3 sI wr => ∃ i : Nat, i ≤ y.methods.length ∧ sI = .int .i64 i ∧ TRow wr w.heap.size s3 (U4 ++ (y.methods.take i).flatMap Li.method) ∧ Below w.heap.size w wr ∧ wr.heap[w.heap.size]? = some (.cells #[.int .i64 y.minor, .int .i64 y.major, .int .i64 y.flags, .string (bs y.this), .string (bs y.super), .slice B5 y.faces.length d5, .slice B6 y.fields.length d6, .slice B7 y.methods.length d7, .int .i64 y.attrs.has, .int .i64 y.attrs.code.stack, .int .i64 y.attrs.code.locals, .slice C0 y.attrs.code.ops.length e0, .slice C1 y.attrs.code.handlers.length e1, .int .i64 y.attrs.code.has, .slice C2 y.attrs.code.lines.length e2, .slice C3 y.attrs.code.slots.length e3, .int .i64 y.attrs.value.tag, .string (bs y.attrs.value.text), .int .u64 y.attrs.value.bits, .string (bs y.attrs.value.cls), .string (bs y.attrs.value.name), .string (bs y.attrs.value.desc), .slice C4 y.attrs.throws.length e4, .slice C5 y.attrs.inners.length e5, .string (bs y.attrs.signature), .string (bs y.attrs.source)] 37 (0, 0))) (fun _ sI _ => y.methods.length - (intOf sI).toNat)
              case atStart => exact ⟨0, Nat.zero_le _, rfl, by simpa using R4.out, K4.out, X4.out⟩
              case round =>
                obtain ⟨i, hil, rfl, hR0, hK0, hX0⟩ := hrel
                by_cases h1 : i < y.methods.length
                · as_aux_lemma =>
                  obtain ⟨g, o, x, cx, rfl, hgw, hx, hrx, hcl, hcx⟩ := HS7.out.at_ h1
                  have HGX := Lib.hid (HGHS7.out x (List.mem_of_getElem? hx))
                  have HSN := Lib.hid (meth_snoc hx)
                  have hcw := hcx.grow hK0 hgw
                  have HONE := Lib.hid (mbr_one cx x hrx)
                  have HRX := Lib.hid (fun w' (k : Below w.heap.size w w') => Mbr.rd_grow hrx k)
                  obtain ⟨Ma0, mc0, Ma1, mc1, Ma2, mc2, Ma3, mc3, Ma4, mc4, Ma5, mc5, rfl, _⟩ := Mbr.leafs hrx
                  have hgr : g < wr.heap.size := Nat.lt_of_lt_of_le hgw hK0.size
                  have HCW := Lib.hid hcw
                  have hcl1 : (Tryd.prog.info? 59).map (·.size) = some 21 := by kernel_rfl
                  have k4 := (Below.refl wr.heap.size wr).alloc (Nat.le_refl _) (.cells #[.int .i64 x.flags, .string (bs x.name), .string (bs x.desc), .int .i64 x.attrs.has, .int .i64 x.attrs.code.stack, .int .i64 x.attrs.code.locals, .slice Ma0 x.attrs.code.ops.length mc0, .slice Ma1 x.attrs.code.handlers.length mc1, .int .i64 x.attrs.code.has, .slice Ma2 x.attrs.code.lines.length mc2, .slice Ma3 x.attrs.code.slots.length mc3, .int .i64 x.attrs.value.tag, .string (bs x.attrs.value.text), .int .u64 x.attrs.value.bits, .string (bs x.attrs.value.cls), .string (bs x.attrs.value.name), .string (bs x.attrs.value.desc), .slice Ma4 x.attrs.throws.length mc4, .slice Ma5 x.attrs.inners.length mc5, .string (bs x.attrs.signature), .string (bs x.attrs.source)] 59)
                  have E4 := Lib.hid (heap_alloc_new wr (.cells #[.int .i64 x.flags, .string (bs x.name), .string (bs x.desc), .int .i64 x.attrs.has, .int .i64 x.attrs.code.stack, .int .i64 x.attrs.code.locals, .slice Ma0 x.attrs.code.ops.length mc0, .slice Ma1 x.attrs.code.handlers.length mc1, .int .i64 x.attrs.code.has, .slice Ma2 x.attrs.code.lines.length mc2, .slice Ma3 x.attrs.code.slots.length mc3, .int .i64 x.attrs.value.tag, .string (bs x.attrs.value.text), .int .u64 x.attrs.value.bits, .string (bs x.attrs.value.cls), .string (bs x.attrs.value.name), .string (bs x.attrs.value.desc), .slice Ma4 x.attrs.throws.length mc4, .slice Ma5 x.attrs.inners.length mc5, .string (bs x.attrs.signature), .string (bs x.attrs.source)] 59))
                  have R4 := Lib.hid (hR0.grow k4)
                  have K4 := Lib.hid (hK0.trans (k4.mono hK0.size))
                  have X4 := Lib.hid ((k4.block w.heap.size (Array.getElem?_eq_some_iff.1 hX0).1).trans hX0)
                  clear hR0 hK0 hX0 hcw hcx hrx hcl k4 hgw
                  go_upto_region 20 with (first | (refine wpList_load_cells rfl 59 _ rfl g (o + i * 21) rfl _ HCW.out _ Tryd.underlying59 rfl hcl1 ?_) | (refine wpList_store_fresh rfl 59 _ _ rfl wr _ [.int .i64 x.flags, .string (bs x.name), .string (bs x.desc), .int .i64 x.attrs.has, .int .i64 x.attrs.code.stack, .int .i64 x.attrs.code.locals, .slice Ma0 x.attrs.code.ops.length mc0, .slice Ma1 x.attrs.code.handlers.length mc1, .int .i64 x.attrs.code.has, .slice Ma2 x.attrs.code.lines.length mc2, .slice Ma3 x.attrs.code.slots.length mc3, .int .i64 x.attrs.value.tag, .string (bs x.attrs.value.text), .int .u64 x.attrs.value.bits, .string (bs x.attrs.value.cls), .string (bs x.attrs.value.name), .string (bs x.attrs.value.desc), .slice Ma4 x.attrs.throws.length mc4, .slice Ma5 x.attrs.inners.length mc5, .string (bs x.attrs.signature), .string (bs x.attrs.source)] 59 rfl rfl hcl1 rfl HONE.out ?_))
                  generalize hW4 : wr.alloc (.cells #[.int .i64 x.flags, .string (bs x.name), .string (bs x.desc), .int .i64 x.attrs.has, .int .i64 x.attrs.code.stack, .int .i64 x.attrs.code.locals, .slice Ma0 x.attrs.code.ops.length mc0, .slice Ma1 x.attrs.code.handlers.length mc1, .int .i64 x.attrs.code.has, .slice Ma2 x.attrs.code.lines.length mc2, .slice Ma3 x.attrs.code.slots.length mc3, .int .i64 x.attrs.value.tag, .string (bs x.attrs.value.text), .int .u64 x.attrs.value.bits, .string (bs x.attrs.value.cls), .string (bs x.attrs.value.name), .string (bs x.attrs.value.desc), .slice Ma4 x.attrs.throws.length mc4, .slice Ma5 x.attrs.inners.length mc5, .string (bs x.attrs.signature), .string (bs x.attrs.source)] 59) = W4 at E4 R4 K4 X4 ⊢
                  have z4 : wr.heap.size < W4.heap.size := (Array.getElem?_eq_some_iff.1 E4.out).1
                  clear hW4 hgr HCW HONE
                  have hcl2 : (Tryd.prog.info? 59).map (·.size) = some 21 := by kernel_rfl
                  have HCX := Lib.hid (show CellsAt W4 wr.heap.size 0 [.int .i64 x.flags, .string (bs x.name), .string (bs x.desc), .int .i64 x.attrs.has, .int .i64 x.attrs.code.stack, .int .i64 x.attrs.code.locals, .slice Ma0 x.attrs.code.ops.length mc0, .slice Ma1 x.attrs.code.handlers.length mc1, .int .i64 x.attrs.code.has, .slice Ma2 x.attrs.code.lines.length mc2, .slice Ma3 x.attrs.code.slots.length mc3, .int .i64 x.attrs.value.tag, .string (bs x.attrs.value.text), .int .u64 x.attrs.value.bits, .string (bs x.attrs.value.cls), .string (bs x.attrs.value.name), .string (bs x.attrs.value.desc), .slice Ma4 x.attrs.throws.length mc4, .slice Ma5 x.attrs.inners.length mc5, .string (bs x.attrs.signature), .string (bs x.attrs.source)] from cellsAt_block E4.out 0 21)
                  have CX := Lib.hid (member_any W4 [109, 101, 116, 104, 111, 100] (by decide) x _ (HRX.out W4 K4.out) HGX.out.1 HGX.out.2 (tab_below HT.out K4.out))
                  go_upto_region 21 with (refine wpList_load_cells rfl 59 _ rfl wr.heap.size 0 rfl _ HCX.out _ Tryd.underlying59 rfl hcl2 ?_)
                  refine CX.out.mono ?_
                  rintro e w1 ⟨rfl, hb1⟩
                  have k5 := (Below.refl w1.heap.size w1).alloc (Nat.le_refl _) (.cells #[.string (bs (Li.member [109, 101, 116, 104, 111, 100] x))] 9)
                  have kk := hb1.trans (k5.mono hb1.size)
                  have zz := Nat.le_trans K4.out.size kk.size
                  have R5 := Lib.hid (R4.out.grow kk)
                  have K5 := Lib.hid (K4.out.trans (kk.mono K4.out.size))
                  have X5 := Lib.hid ((kk.block _ (Array.getElem?_eq_some_iff.1 X4.out).1).trans X4.out)
                  have E5 := Lib.hid ((kk.block _ z4).trans E4.out)
                  have FB := Lib.hid (heap_alloc_new w1 (.cells #[.string (bs (Li.member [109, 101, 116, 104, 111, 100] x))] 9))
                  clear hb1 k5 kk CX HCX hcl2 R4 K4 X4 E4
                  have hn6 := HN5.out i
                  obtain ⟨V, hV⟩ : ∃ V, V = U4 ++ (y.methods.take i).flatMap Li.method := ⟨_, rfl⟩
                  have hvl : V.length ≤ 40000000 := by rw [hV, List.length_append]; omega
                  rw [← hV] at R5
                  have HV := Lib.hid hV
                  clear hV
                  go_upto_region 21 with (at_builtin; refine wpList_appS rfl _ _ rfl w.heap.size _ _ rfl R5.out _ (Li.member [109, 101, 116, 104, 111, 100] x) _ _ rfl FB.out (by omega) zz ?_; intro v2 w2 hr2 hh2; have R6 := Lib.hid hr2; have K6 := Lib.hid (K5.out.trans (hh2.below zz (fun k hk => (World.ownsRow.lt R5.out k hk).1))); have X6 := Lib.hid ((hh2.1.block _ (Array.getElem?_eq_some_iff.1 X5.out).1 (own_ne R5.out X5.out (by decide))).trans X5.out); have E6 := Lib.hid ((hh2.1.block _ (Array.getElem?_eq_some_iff.1 E5.out).1 (own_ne R5.out E5.out (by decide))).trans E5.out); clear hr2 hh2)
                  clear R5 K5 X5 E5 FB
                  have e3 : w2.cell? ⟨wr.heap.size, 3, none⟩ = some (.int .i64 x.attrs.has) := by rw [Lib.cell_of_heap E6.out]; rfl
                  have hq4 := (Array.getElem?_eq_some_iff.1 E6.out).1
                  have z6 := K6.out.size
                  cases hh : hasB x.attrs.has 1 with
                  | false =>
                    have hh2 : (bits .and .i64 x.attrs.has 1 != 0) = false := hh
                    have HE := Lib.hid (show U4 ++ (y.methods.take (i + 1)).flatMap Li.method = V ++ [Li.member [109, 101, 116, 104, 111, 100] x] by rw [HSN.out, HV.out, List.append_assoc]; unfold Li.method; rw [hh]; rfl)
                    go_wp2_with fail
                    refine ⟨⟨i + 1, h1, rfl, by rw [HE.out]; exact R6.out, K6.out, X6.out⟩, less_next h1⟩
                  | true =>
                    have hh2 : (bits .and .i64 x.attrs.has 1 != 0) = true := hh
                    have HE := Lib.hid (show U4 ++ (y.methods.take (i + 1)).flatMap Li.method = V ++ [Li.member [109, 101, 116, 104, 111, 100] x] ++ Li.code x.attrs.code by rw [HSN.out, HV.out, List.append_assoc, List.append_assoc]; unfold Li.method; rw [hh]; rfl)
                    have hcb : x.attrs.code.blk ≤ 2000000 := by have := HGX.out.2; unfold Mbr.blk Atr.blk at this; omega
                    have HRC := Lib.hid (show Cde.rd w2 [.int .i64 x.attrs.code.stack, .int .i64 x.attrs.code.locals, .slice Ma0 x.attrs.code.ops.length mc0, .slice Ma1 x.attrs.code.handlers.length mc1, .int .i64 x.attrs.code.has, .slice Ma2 x.attrs.code.lines.length mc2, .slice Ma3 x.attrs.code.slots.length mc3] x.attrs.code from (HRX.out w2 K6.out).2.2.2.2.2.2.1)
                    have HCX := Lib.hid (show CellsAt w2 wr.heap.size 4 [.int .i64 x.attrs.code.stack, .int .i64 x.attrs.code.locals, .slice Ma0 x.attrs.code.ops.length mc0, .slice Ma1 x.attrs.code.handlers.length mc1, .int .i64 x.attrs.code.has, .slice Ma2 x.attrs.code.lines.length mc2, .slice Ma3 x.attrs.code.slots.length mc3] from cellsAt_block E6.out 4 7)
                    have hcl7 : (Tryd.prog.info? 29).map (·.size) = some 7 := by kernel_rfl
                    have CX := Lib.hid (code_any w2 x.attrs.code _ HRC.out HGX.out.1.2.2.2.2.1 hcb (tab_below HT.out K6.out))
                    go_upto_region 22 with fail
                    go_upto_region 23 with (refine wpList_load_cells rfl 29 _ rfl wr.heap.size 4 rfl _ HCX.out _ Tryd.underlying29 rfl hcl7 ?_)
                    refine CX.out.mono ?_
                    rintro e w3 ⟨v3, rfl, hr3, hb3⟩
                    obtain ⟨A3, c3, rfl, hS3⟩ := hr3.reads
                    have HSR := Lib.hid hS3.src
                    have zz3 := Nat.le_trans z6 hb3.size
                    have R7 := Lib.hid (R6.out.grow hb3)
                    have K7 := Lib.hid (K6.out.trans (hb3.mono z6))
                    have X7 := Lib.hid ((hb3.block _ (Array.getElem?_eq_some_iff.1 X6.out).1).trans X6.out)
                    have hcl : (Li.code x.attrs.code).length ≤ 2000000 := by have h1 := method_len x; have h2 := HGX.out.2; unfold Li.method at h1; rw [hh] at h1; simp only [if_true, List.length_cons] at h1; omega
                    have hnn : (V ++ [Li.member [109, 101, 116, 104, 111, 100] x]).length + (Li.code x.attrs.code).length ≤ 1000000000000 := by rw [List.length_append, List.length_singleton]; omega
                    clear hr3 hb3 CX HCX hcl7 HRC hS3 R6 K6 X6 E6 e3 hq4 hh2
                    go_wp2_with (at_builtin; refine wpList_appT rfl _ _ rfl w.heap.size _ _ rfl R7.out _ _ rfl HSR.out hnn zz3 ?_; intro v8 w8 hr8 hh8; have R8 := Lib.hid hr8; have K8 := Lib.hid (K7.out.trans (hh8.below zz3 (fun k hk => (World.ownsRow.lt R7.out k hk).1))); have X8 := Lib.hid ((hh8.1.block _ (Array.getElem?_eq_some_iff.1 X7.out).1 (own_ne R7.out X7.out (by decide))).trans X7.out); clear hr8 hh8)
                    refine ⟨⟨i + 1, h1, rfl, by rw [HE.out]; exact R8.out, K8.out, X8.out⟩, less_next h1⟩
                · as_aux_lemma =>
                  have hie : i = y.methods.length := by omega
                  subst hie
                  rw [List.take_length] at hR0
                  obtain ⟨U5, hU5⟩ : ∃ z, z = U4 ++ y.methods.flatMap Li.method := ⟨_, rfl⟩
                  rw [← hU5] at hR0
                  have HU5 := Lib.hid hU5
                  have R5 := Lib.hid hR0
                  have K5 := Lib.hid hK0
                  have X5 := Lib.hid hX0
                  clear hU5 hR0 hK0 hX0
                  have HE := Lib.hid (show U5 = Li.cls y by rw [HU5.out, HU4.out, HU3.out, HU2.out, HL0.out]; unfold Li.cls; simp only [List.append_assoc, List.cons_append, List.nil_append]; rfl)
                  go_wp2_with fail
                  go_ret
                  exact ⟨_, rfl, by rw [← HE.out]; exact R5.out, K5.out⟩
end Go.Proofs.YtpjafbinlklojaaDoor

/- As XOrder, where the tail waits for the head through longer chains. No program. -/
namespace Go.Proofs.YtpjafbinlklojaaDoor
open Go.RowKit
section
variable {P : Program} {ops : Array Oper} {md : Region.Mode} {Q : Exit → Act → World → Prop} {w0 x y : World} {E F : Env}
def ordLateL (md : Region.Mode) (ops : Array Oper) (n : Nat) : Bool :=
  (List.range n).all fun i => (match ops[i]? with | some oi => lateB oi | none => false) || (List.range ops.size).all fun t => decide (t < n) || waitsT md ops 7 t i
def ordBL (md : Region.Mode) (ops : Array Oper) (n : Nat) : Bool :=
  Region.noSelect ops && decide (n ≤ ops.size) && ordLateL md ops n && ordHead md ops (ops.size - n) n 0 (Array.replicate ops.size false)
theorem ordLateL_spec {n : Nat} (h : ordLateL md ops n = true) {i : Nat} (hi : i < n) {oi : Oper} (hoi : ops[i]? = some oi) (t : Nat) (ot : Oper) (ht : n ≤ t) (hot : ops[t]? = some ot) :
    (∃ f, waitsT md ops f t i = true) ∨ lateB oi = true := by
  have h1 := List.all_eq_true.1 h i (List.mem_range.2 hi)
  simp only [hoi, Bool.or_eq_true] at h1
  rcases h1 with h1 | h1
  · exact .inr h1
  · have h2 := List.all_eq_true.1 h1 t (List.mem_range.2 (Array.getElem?_eq_some_iff.1 hot).1)
    simp only [Bool.or_eq_true, decide_eq_true_eq] at h2
    rcases h2 with h2 | h2
    · omega
    · exact .inl ⟨7, h2⟩
theorem AO.lexL {n g : Nat} {tail : List Oper} (hsel : Region.noSelect ops = true) (hQ : ∀ c a d v w, Q (.panic c) (a.put d v) w → Q (.panic c) a w) (hl : ordLateL md ops n = true) (htail : ∀ j, tail[j]? = ops[n + j]?) (hg : tail.length = g) :
    ∀ (l : List Oper) (k : Nat) (listed : Array Bool) (E : Env) (a : Act), Closed md ops listed → (∀ j, j < l.length → l[j]? = ops[k + j]?) → k + l.length = n → ordHead md ops g l.length k listed = true →
    wpLex P ops Q w0 tail l E a → AO P md ops Q w0 n g l.length listed E a
  | [], k, listed, E, a, _, _, hk, hB, h => by
    have hkn : k = n := by simpa using hk
    subst hkn
    simp only [List.length_nil, ordHead, Bool.and_eq_true] at hB
    refine fun w hw => ⟨fun j hj => by simpa using List.all_eq_true.1 hB.2 j hj, ?_⟩
    subst hg
    exact wpAny_of_seq tail k listed a w htail hB.1 (h w hw)
  | o :: l, k, listed, E, a, hcl, hll, hk, hB, h => by
    simp only [List.length_cons] at hk
    simp only [List.length_cons, ordHead, Bool.and_eq_true] at hB
    have h0 : ops[k]? = some o := by simpa using (hll 0 (by simp)).symm
    by_cases hne : ∃ x, Cl w0 E x
    · obtain ⟨kd, hr, hrest⟩ := h hne
      refine AO.first h0 (by omega) (Region.noSelect_spec hsel) (fun c a v w => hQ c a o.dst v w) (fun t ot ht hot => ordLateL_spec hl (by omega) h0 t ot ht hot) l.length listed E a hcl (Region.free_spec h0 hB.1.2) (by simpa using hB.1.1) hr fun B hBB => ?_
      exact AO.lexL hsel hQ hl htail hg l (k + 1) _ _ _ (hcl.set (by simpa using hB.1.1)) (fun j hj => by have := hll (j + 1) (by simp; omega); simpa [Nat.add_assoc, Nat.add_comm 1 j] using this) (by omega) hB.2 (hrest B hBB)
    · exact fun w hw => absurd ⟨w, hw⟩ hne

theorem wp_region_ordL {id : Nat} {a : Act} {w : World} {l : List Oper} (n : Nat) (hm : P.follows .mixedOrders = true) (hB : ordBL .any l.toArray n = true)
    (hQ : ∀ c a d v w, Q (.panic c) (a.put d v) w → Q (.panic c) a w)
    (h : wpLex P l.toArray Q w.drew (l.drop n) (l.take n) Env.none a) : (Code.region id l.toArray true).wp P Q a w := by
  simp only [ordBL, Bool.and_eq_true, decide_eq_true_eq] at hB
  obtain ⟨⟨⟨hsel, hn⟩, hl⟩, hh⟩ := hB
  have hn' : n ≤ l.length := by simpa using hn
  have htl : (l.take n).length = n := by simp; omega
  have hdl : (l.drop n).length = l.toArray.size - n := by simp
  have H := AO.lexL (md := .any) (g := l.toArray.size - n) hsel hQ hl (fun j => by simp [List.getElem?_drop]) hdl (l.take n) 0 _ Env.none a (Closed.none _) (fun j hj => by
    have hj' : j < n := by rw [htl] at hj; exact hj
    simp [hj']) (by simpa using htl) (by rw [htl]; exact hh) h
  refine wp_region_any hm ?_
  have := AO.any _ _ _ _ w.drew H ⟨Below.refl _ _, fun s B o e => e.elim⟩
  rw [htl, show n + (l.toArray.size - n) = l.toArray.size by omega] at this
  exact this

end
end Go.Proofs.YtpjafbinlklojaaDoor
