/- Joined texts: RefG, OrdC, Same. -/
import Derived.Test.YtpjafbinlklojaaDoorPk8
import Derived.Test.YtpjafbinlklojaaDoorPk1
import Derived.Test.YtpjafbinlklojaaDoorPk5
/- The walks of the document's layer 35: a class's lines. Printed by mk_rclass.py. -/
namespace Go.Proofs.YtpjafbinlklojaaDoor
open Go.RowKit Go.Deep
theorem rbeside_len (a : Atr) (h : a.good) : (Ri.beside a).length ≤ 3 * a.blk + 201 := by
  rw [besides, List.length_cons]
  have := beside_len a h
  omega
theorem num1_ok {x : Int} (h : I64 x) : ∀ n ∈ [x], I64 n := fun n hn => by
  rw [List.mem_singleton.1 hn]
  exact h
theorem head_text (y : Cls) : (⟨#[99, 108, 97, 115, 115]⟩ : ByteArray) ++ bs (Ri.or y.this) ++ (⟨#[32, 115, 117, 112, 101, 114]⟩ : ByteArray) ++ bs (Ri.or y.super) ++ (⟨#[32, 118, 101, 114, 115, 105, 111, 110]⟩ : ByteArray) ++ bs (Ri.num [y.major, y.minor]) ++ (⟨#[32, 102, 108, 97, 103, 115]⟩ : ByteArray) ++ bs (Ri.num [y.flags]) ++ bs (Ri.beside y.attrs) = bs (Li.line (Li.headL y)) := by
  rw [show (⟨#[99, 108, 97, 115, 115]⟩ : ByteArray) = bs [99, 108, 97, 115, 115] from rfl, show (⟨#[32, 115, 117, 112, 101, 114]⟩ : ByteArray) = bs [32, 115, 117, 112, 101, 114] from rfl, show (⟨#[32, 118, 101, 114, 115, 105, 111, 110]⟩ : ByteArray) = bs [32, 118, 101, 114, 115, 105, 111, 110] from rfl, show (⟨#[32, 102, 108, 97, 103, 115]⟩ : ByteArray) = bs [32, 102, 108, 97, 103, 115] from rfl]
  rw [bs_append, bs_append, bs_append, bs_append, bs_append, bs_append, bs_append, bs_append]
  unfold Li.headL
  rw [← heads]
  unfold Ri.head
  simp
theorem member_text (kind : List UInt8) (m : Mbr) : bs kind ++ bs (Ri.num [m.flags]) ++ bs (Ri.or m.name) ++ bs (Ri.or m.desc) ++ bs (Ri.beside m.attrs) = bs (Li.member kind m) := by
  rw [bs_append, bs_append, bs_append, bs_append, ← members]
  rfl
theorem inner_text (x : Inr) : (⟨#[105, 110, 110, 101, 114]⟩ : ByteArray) ++ bs (Ri.or x.cls) ++ bs (Ri.or x.outer) ++ bs (Ri.or x.name) ++ bs (Ri.num [x.flags]) = bs (Li.inr x) := by
  rw [show (⟨#[105, 110, 110, 101, 114]⟩ : ByteArray) = bs [105, 110, 110, 101, 114] from rfl, bs_append, bs_append, bs_append, bs_append, ← inrs]
  rfl
theorem face_text (x : List UInt8) : (⟨#[102, 97, 99, 101]⟩ : ByteArray) ++ bs (Ri.or x) = bs (Li.face x) := by
  rw [show (⟨#[102, 97, 99, 101]⟩ : ByteArray) = bs [102, 97, 99, 101] from rfl, bs_append]
  unfold Li.face Ri.or
  rw [line_cons]
  simp
set_option maxHeartbeats 16000000 in
set_option maxRecDepth 100000 in
theorem rclass_any (w : World) (y : Cls) (cs : List Value) (hr : Cls.rd w cs y) (hg : y.good) (hb : y.blk ≤ 2000000) :
    Calls Tryd.prog 8 #[.agg cs.toArray] w fun e w' => ∃ v, e = .returned v ∧ TRow w' w.heap.size v (Li.cls y) ∧ Below w.heap.size w w' := by
  obtain ⟨hth, hsu, h2, hfl, hag, hab, _, hgf, hgi, hgd, hgm, hn1, hn2, hn3, hn4, hn5⟩ := cls_ok hg hb
  have zt : (bs (Ri.or y.this)).size ≤ 300000002 := by rw [bs_size]; have := rior_len y.this; omega
  have zs : (bs (Ri.or y.super)).size ≤ 300000002 := by rw [bs_size]; have := rior_len y.super; omega
  have zn : (bs (Ri.num [y.major, y.minor])).size ≤ 42 := by rw [bs_size]; exact rnum_len h2
  have zf : (bs (Ri.num [y.flags])).size ≤ 21 := by rw [bs_size]; exact rnum_len (num1_ok hfl)
  have zb : (bs (Ri.beside y.attrs)).size ≤ 6000201 := by rw [bs_size]; have := rbeside_len y.attrs hag; omega
  have HAR := Lib.hid (fun w' (k : Below w.heap.size w w') => Atr.rd_grow (show Atr.rd w ((cs.drop 8).take 18) y.attrs from hr.2.2.2.2.2.2.2.2.2) k)
  obtain ⟨B5, d5, B6, d6, B7, d7, C0, e0, C1, e1, C2, e2, C3, e3, C4, e4, C5, e5, rfl, ⟨s5, _⟩, ⟨s6, _⟩, ⟨s7, _⟩, _, _, _, _, _, ⟨s8, _⟩⟩ := Cls.leafs hr
  have HS5 := Lib.hid s5
  have HS6 := Lib.hid s6
  have HS7 := Lib.hid s7
  have HS8 := Lib.hid s8
  have HGHS5 := Lib.hid hgf
  have HGHS8 := Lib.hid hgi
  have HGHS6 := Lib.hid hgd
  have HGHS7 := Lib.hid hgm
  have H2 := Lib.hid h2
  have HN5 := Lib.hid hn5
  have HF1 := Lib.hid (num1_ok hfl)
  clear hr s5 s6 s7 s8 hgf hgi hgd hgm h2 hg hb hn5 hfl
  have k1 := (Below.refl w.heap.size w).alloc (Nat.le_refl _) (.cells #[.int .i64 y.minor, .int .i64 y.major, .int .i64 y.flags, .string (bs y.this), .string (bs y.super), .slice B5 y.faces.length d5, .slice B6 y.fields.length d6, .slice B7 y.methods.length d7, .int .i64 y.attrs.has, .int .i64 y.attrs.code.stack, .int .i64 y.attrs.code.locals, .slice C0 y.attrs.code.ops.length e0, .slice C1 y.attrs.code.handlers.length e1, .int .i64 y.attrs.code.has, .slice C2 y.attrs.code.lines.length e2, .slice C3 y.attrs.code.slots.length e3, .int .i64 y.attrs.value.tag, .string (bs y.attrs.value.text), .int .u64 y.attrs.value.bits, .string (bs y.attrs.value.cls), .string (bs y.attrs.value.name), .string (bs y.attrs.value.desc), .slice C4 y.attrs.throws.length e4, .slice C5 y.attrs.inners.length e5, .string (bs y.attrs.signature), .string (bs y.attrs.source)] 37)
  have X0 := Lib.hid (heap_alloc_new w (.cells #[.int .i64 y.minor, .int .i64 y.major, .int .i64 y.flags, .string (bs y.this), .string (bs y.super), .slice B5 y.faces.length d5, .slice B6 y.fields.length d6, .slice B7 y.methods.length d7, .int .i64 y.attrs.has, .int .i64 y.attrs.code.stack, .int .i64 y.attrs.code.locals, .slice C0 y.attrs.code.ops.length e0, .slice C1 y.attrs.code.handlers.length e1, .int .i64 y.attrs.code.has, .slice C2 y.attrs.code.lines.length e2, .slice C3 y.attrs.code.slots.length e3, .int .i64 y.attrs.value.tag, .string (bs y.attrs.value.text), .int .u64 y.attrs.value.bits, .string (bs y.attrs.value.cls), .string (bs y.attrs.value.name), .string (bs y.attrs.value.desc), .slice C4 y.attrs.throws.length e4, .slice C5 y.attrs.inners.length e5, .string (bs y.attrs.signature), .string (bs y.attrs.source)] 37))
  have K0 := Lib.hid k1
  clear k1
  go_enter Tryd.func8, Tryd.ntmps8
  go_upto_region 1 with fail
  generalize w.alloc (.cells #[.int .i64 y.minor, .int .i64 y.major, .int .i64 y.flags, .string (bs y.this), .string (bs y.super), .slice B5 y.faces.length d5, .slice B6 y.fields.length d6, .slice B7 y.methods.length d7, .int .i64 y.attrs.has, .int .i64 y.attrs.code.stack, .int .i64 y.attrs.code.locals, .slice C0 y.attrs.code.ops.length e0, .slice C1 y.attrs.code.handlers.length e1, .int .i64 y.attrs.code.has, .slice C2 y.attrs.code.lines.length e2, .slice C3 y.attrs.code.slots.length e3, .int .i64 y.attrs.value.tag, .string (bs y.attrs.value.text), .int .u64 y.attrs.value.bits, .string (bs y.attrs.value.cls), .string (bs y.attrs.value.name), .string (bs y.attrs.value.desc), .slice C4 y.attrs.throws.length e4, .slice C5 y.attrs.inners.length e5, .string (bs y.attrs.signature), .string (bs y.attrs.source)] 37) = W at X0 K0 ⊢
  obtain ⟨f1, f2⟩ := blk_facts X0.out
  have z1 : w.heap.size < W.heap.size := (Array.getElem?_eq_some_iff.1 X0.out).1
  have z1d : w.heap.size < W.drew.heap.size := z1
  have HCA := Lib.hid (show CellsAt W.drew w.heap.size 8 [.int .i64 y.attrs.has, .int .i64 y.attrs.code.stack, .int .i64 y.attrs.code.locals, .slice C0 y.attrs.code.ops.length e0, .slice C1 y.attrs.code.handlers.length e1, .int .i64 y.attrs.code.has, .slice C2 y.attrs.code.lines.length e2, .slice C3 y.attrs.code.slots.length e3, .int .i64 y.attrs.value.tag, .string (bs y.attrs.value.text), .int .u64 y.attrs.value.bits, .string (bs y.attrs.value.cls), .string (bs y.attrs.value.name), .string (bs y.attrs.value.desc), .slice C4 y.attrs.throws.length e4, .slice C5 y.attrs.inners.length e5, .string (bs y.attrs.signature), .string (bs y.attrs.source)] from cellsAt_block (w := W.drew) X0.out 8 18)
  have hcl18 : (Tryd.prog.info? 35).map (·.size) = some 18 := by kernel_rfl
  have HAR1 := Lib.hid (HAR.out W.drew K0.out.drew)
  refine wp_region_ord 29 (by kernel_rfl) (by kernel_rfl) (fun _ _ d _ _ h => by cases d <;> exact h) ?_
  simp only [List.take_succ_cons, List.take_zero, List.drop_succ_cons, List.drop_zero]
  repeat (first | ((refine wpLex_load rfl 35 _ rfl w.heap.size 8 rfl _ HCA.out z1d _ Tryd.underlying35 rfl hcl18 ?_); simp only [Act.put, List.setIfInBounds_toArray, List.set_cons_zero, List.set_cons_succ]) | (refine wpLex_skip rfl ?_; simp only [Act.put, List.setIfInBounds_toArray, List.set_cons_zero, List.set_cons_succ]) | (refine wpLex_fix rfl ?_; intro F hF R hR hne K hK; go_big_quiet_op; first | (go_big_quiet_on; clear hne hR R hF F) | (apply Exists.intro; refine ⟨fun g => ?_, ?_⟩; (((first | (rw [if_neg (by first | omega | (simp; omega))]; exact ⟨rfl, rfl⟩) | (rw [GrE.cell g _ _ z1d]; go_simp; first | exact ⟨rfl, rfl⟩ | rfl) | (go_simp; (repeat (simp only [GrE.cell g _ _ z1d]; go_simp)); first | exact ⟨rfl, rfl⟩ | rfl) | (go_at_call 21; first | exact GrE.call hR (rnum_blk (GrE.blk g (hF.out _ _ _ (by decide) (.inr ⟨rfl, rfl, rfl⟩))) [y.major, y.minor] _ rfl rfl H2.out (by simp)) | exact GrE.call hR (rnum_blk (GrE.blk g (hF.out _ _ _ (by decide) (.inr ⟨rfl, rfl, rfl⟩))) [y.flags] _ rfl rfl HF1.out (by simp))) | (go_at_call 20; first | exact GrE.call hR (ror_any y.this _ hth) | exact GrE.call hR (ror_any y.super _ hsu)) | (go_at_call 22; exact GrE.call hR (rbeside_any _ y.attrs _ (Atr.rd_grow HAR1.out (GrE.below g)) hag hab))))); go_big_quiet_on; clear hne hR R hF F)) | (apply wpLex_blk rfl; (focus (intro x hx; go_simp; exact ⟨rfl, rfl⟩)); intro B hB; simp only [Act.put, blkVal, List.setIfInBounds_toArray, List.set_cons_zero, List.set_cons_succ]))
  refine wpLex_nil ?_
  intro w1 hw1
  have F1 := hw1.fact 39 _ _ (.inr ⟨rfl, rfl, rfl⟩)
  rw [head_text] at F1
  have kk := (Below.refl W.heap.size W).drew.trans hw1.below
  have K1 := Lib.hid (K0.out.trans (kk.mono K0.out.size))
  have X1 := Lib.hid ((kk.block _ z1).trans X0.out)
  have R1 := Lib.hid (trow_blk (base := w.heap.size) F1.2 (Nat.le_trans (Nat.le_of_lt z1) F1.1) [Li.line (Li.headL y)] 1 rfl rfl (by unfold maxLen; omega))
  clear hw1 F1 f1 f2 z1 z1d kk K0 X0 HCA hcl18 HAR1 HAR zt zs zn zf zb
  obtain ⟨L0, hL0⟩ : ∃ z, z = Li.line (Li.headL y) := ⟨_, rfl⟩
  rw [← hL0] at R1
  have HL0 := Lib.hid hL0
  clear hL0
  have e3 : w1.cell? ⟨w.heap.size, 5, none⟩ = some (.slice B5 y.faces.length d5) := by rw [Lib.cell_of_heap X1.out]; rfl
  have hq4 := (Array.getElem?_eq_some_iff.1 X1.out).1
  go_upto_region 3 with fail
  clear e3 hq4
  go_loopw [3, 43] (fun s3 sI wr => ∃ i : Nat, i ≤ y.faces.length ∧ sI = .int .i64 i ∧ TRow wr w.heap.size s3 ([L0] ++ (y.faces.take i).map Li.face) ∧ Below w.heap.size w wr ∧ wr.heap[w.heap.size]? = some (.cells #[.int .i64 y.minor, .int .i64 y.major, .int .i64 y.flags, .string (bs y.this), .string (bs y.super), .slice B5 y.faces.length d5, .slice B6 y.fields.length d6, .slice B7 y.methods.length d7, .int .i64 y.attrs.has, .int .i64 y.attrs.code.stack, .int .i64 y.attrs.code.locals, .slice C0 y.attrs.code.ops.length e0, .slice C1 y.attrs.code.handlers.length e1, .int .i64 y.attrs.code.has, .slice C2 y.attrs.code.lines.length e2, .slice C3 y.attrs.code.slots.length e3, .int .i64 y.attrs.value.tag, .string (bs y.attrs.value.text), .int .u64 y.attrs.value.bits, .string (bs y.attrs.value.cls), .string (bs y.attrs.value.name), .string (bs y.attrs.value.desc), .slice C4 y.attrs.throws.length e4, .slice C5 y.attrs.inners.length e5, .string (bs y.attrs.signature), .string (bs y.attrs.source)] 37 (0, 0))) (fun _ sI _ => y.faces.length - (intOf sI).toNat)
  case atStart => exact ⟨0, Nat.zero_le _, rfl, by simpa using R1.out, K1.out, X1.out⟩
  case round =>
    obtain ⟨i, hil, rfl, hR0, hK0, hX0⟩ := hrel
    by_cases h1 : i < y.faces.length
    · as_aux_lemma =>
      obtain ⟨g, o, x, rfl, hgw, hx, hc⟩ := HS5.out.at_ h1
      have HGX := Lib.hid (HGHS5.out x (List.mem_of_getElem? hx))
      have HSN := Lib.hid (map_snoc Li.face hx)
      have hc2 : wr.cell? ⟨g, o + i, none⟩ = some (.string (bs x)) := by rw [World.cell?_of_block (hK0.block g hgw)]; exact hc
      have hgr : g < wr.heap.size := Nat.lt_of_lt_of_le hgw hK0.size
      have R4 := Lib.hid hR0
      have K4 := Lib.hid hK0
      have X4 := Lib.hid hX0
      have zo : (bs (Ri.or x)).size ≤ 300000002 := by rw [bs_size]; have := rior_len x; have := HGX.out.1; omega
      have hcat := face_text x
      have CO := Lib.hid (ror_any x wr HGX.out.1)
      clear hR0 hK0 hX0 hc hgw
      go_upto_region 5 with fail
      go_upto_region 6 with fail
      refine CO.out.mono ?_
      rintro e w6 ⟨rfl, hb6⟩
      have k7 := (Below.refl w6.heap.size w6).alloc (Nat.le_refl _) (.cells #[.string (bs (Li.face x))] 9)
      have kk7 := hb6.trans (k7.mono hb6.size)
      have zz := Nat.le_trans K4.out.size kk7.size
      have R5 := Lib.hid (R4.out.grow kk7)
      have K5 := Lib.hid (K4.out.trans (kk7.mono K4.out.size))
      have X5 := Lib.hid ((kk7.block _ (Array.getElem?_eq_some_iff.1 X4.out).1).trans X4.out)
      have FB := Lib.hid (heap_alloc_new w6 (.cells #[.string (bs (Li.face x))] 9))
      clear hb6 k7 kk7 CO R4 K4 X4 hc2 hgr
      have hnn : ([L0] ++ (y.faces.take i).map Li.face).length ≤ 1000000000000 := by rw [List.length_append, List.length_map, List.length_take, List.length_singleton]; omega
      go_wp2_with (at_builtin; refine wpList_appS rfl _ _ rfl w.heap.size _ _ rfl R5.out _ (Li.face x) _ _ rfl FB.out hnn zz ?_; intro v2 w2 hr2 hh2; have R6 := Lib.hid hr2; have K6 := Lib.hid (K5.out.trans (hh2.below zz (fun k hk => (World.ownsRow.lt R5.out k hk).1))); have X6 := Lib.hid ((hh2.1.block _ (Array.getElem?_eq_some_iff.1 X5.out).1 (own_ne R5.out X5.out (by decide))).trans X5.out); clear hr2 hh2)
      refine ⟨⟨i + 1, h1, rfl, ?_, K6.out, X6.out⟩, less_next h1⟩
      rw [HSN.out, ← List.append_assoc]
      exact R6.out
    · as_aux_lemma =>
      have hie : i = y.faces.length := by omega
      subst hie
      rw [List.take_length] at hR0
      obtain ⟨U2, hU2⟩ : ∃ z, z = [L0] ++ y.faces.map Li.face := ⟨_, rfl⟩
      rw [← hU2] at hR0
      have HU2 := Lib.hid hU2
      have R2 := Lib.hid hR0
      have K2 := Lib.hid hK0
      have X2 := Lib.hid hX0
      clear hU2 hR0 hK0 hX0
      have hu2 : U2.length ≤ 10000000 := by rw [HU2.out, List.length_append, List.length_map, List.length_singleton]; omega
      have e3 : wr.cell? ⟨w.heap.size, 23, none⟩ = some (.slice C5 y.attrs.inners.length e5) := by rw [Lib.cell_of_heap X2.out]; rfl
      have hq4 := (Array.getElem?_eq_some_iff.1 X2.out).1
      go_upto_region 8 with fail
      clear e3 hq4
      go_loopw [3, 58] (fun s3 sI wr => ∃ i : Nat, i ≤ y.attrs.inners.length ∧ sI = .int .i64 i ∧ TRow wr w.heap.size s3 (U2 ++ (y.attrs.inners.take i).map Li.inr) ∧ Below w.heap.size w wr ∧ wr.heap[w.heap.size]? = some (.cells #[.int .i64 y.minor, .int .i64 y.major, .int .i64 y.flags, .string (bs y.this), .string (bs y.super), .slice B5 y.faces.length d5, .slice B6 y.fields.length d6, .slice B7 y.methods.length d7, .int .i64 y.attrs.has, .int .i64 y.attrs.code.stack, .int .i64 y.attrs.code.locals, .slice C0 y.attrs.code.ops.length e0, .slice C1 y.attrs.code.handlers.length e1, .int .i64 y.attrs.code.has, .slice C2 y.attrs.code.lines.length e2, .slice C3 y.attrs.code.slots.length e3, .int .i64 y.attrs.value.tag, .string (bs y.attrs.value.text), .int .u64 y.attrs.value.bits, .string (bs y.attrs.value.cls), .string (bs y.attrs.value.name), .string (bs y.attrs.value.desc), .slice C4 y.attrs.throws.length e4, .slice C5 y.attrs.inners.length e5, .string (bs y.attrs.signature), .string (bs y.attrs.source)] 37 (0, 0))) (fun _ sI _ => y.attrs.inners.length - (intOf sI).toNat)
      case atStart => exact ⟨0, Nat.zero_le _, rfl, by simpa using R2.out, K2.out, X2.out⟩
      case round =>
        obtain ⟨i, hil, rfl, hR0, hK0, hX0⟩ := hrel
        by_cases h1 : i < y.attrs.inners.length
        · as_aux_lemma =>
          obtain ⟨g, o, x, cx, rfl, hgw, hx, hrx, hcl, hcx⟩ := HS8.out.at_ h1
          have HGX := Lib.hid (HGHS8.out x (List.mem_of_getElem? hx))
          have HSN := Lib.hid (map_snoc Li.inr hx)
          have hcw := hcx.grow hK0 hgw
          have HONE := Lib.hid (inr_one cx x hrx)
          have HRX := Lib.hid (fun w' (k : Below w.heap.size w w') => Inr.rd_grow hrx k)
          obtain rfl := Inr.leafs hrx
          have hgr : g < wr.heap.size := Nat.lt_of_lt_of_le hgw hK0.size
          have HCW := Lib.hid hcw
          have hcl1 : (Tryd.prog.info? 57).map (·.size) = some 4 := by kernel_rfl
          have k4 := (Below.refl wr.heap.size wr).alloc (Nat.le_refl _) (.cells #[.string (bs x.cls), .string (bs x.outer), .string (bs x.name), .int .i64 x.flags] 57)
          have E4 := Lib.hid (heap_alloc_new wr (.cells #[.string (bs x.cls), .string (bs x.outer), .string (bs x.name), .int .i64 x.flags] 57))
          have R4 := Lib.hid (hR0.grow k4)
          have K4 := Lib.hid (hK0.trans (k4.mono hK0.size))
          have X4 := Lib.hid ((k4.block w.heap.size (Array.getElem?_eq_some_iff.1 hX0).1).trans hX0)
          clear hR0 hK0 hX0 hcw hcx hrx hcl k4 hgw
          go_upto_region 10 with (first | (refine wpList_load_cells rfl 57 _ rfl g (o + i * 4) rfl _ HCW.out _ Tryd.underlying57 rfl hcl1 ?_) | (refine wpList_store_fresh rfl 57 _ _ rfl wr _ [.string (bs x.cls), .string (bs x.outer), .string (bs x.name), .int .i64 x.flags] 57 rfl rfl hcl1 rfl HONE.out ?_))
          generalize hW4 : wr.alloc (.cells #[.string (bs x.cls), .string (bs x.outer), .string (bs x.name), .int .i64 x.flags] 57) = W4 at E4 R4 K4 X4 ⊢
          have z4 : wr.heap.size < W4.heap.size := (Array.getElem?_eq_some_iff.1 E4.out).1
          clear hW4 hgr HCW HONE
          have HIF := Lib.hid (num1_ok HGX.out.2.2.2.1)
          have zf : (bs (Ri.num [x.flags])).size ≤ 21 := by rw [bs_size]; exact rnum_len HIF.out
          have z_cls : (bs (Ri.or x.cls)).size ≤ 300000002 := by rw [bs_size]; have := rior_len x.cls; have := HGX.out.1; omega
          have z_outer : (bs (Ri.or x.outer)).size ≤ 300000002 := by rw [bs_size]; have := rior_len x.outer; have := HGX.out.2.1; omega
          have z_name : (bs (Ri.or x.name)).size ≤ 300000002 := by rw [bs_size]; have := rior_len x.name; have := HGX.out.2.2.1; omega
          have hcat := Lib.hid (inner_text x)
          obtain ⟨f1, f2⟩ := blk_facts E4.out
          have z1d : wr.heap.size < W4.drew.heap.size := z4
          dsimp only [Act.put]
          refine wp_region_ord 19 (by kernel_rfl) (by kernel_rfl) (fun _ _ d _ _ h => by cases d <;> exact h) ?_
          simp only [List.take_succ_cons, List.take_zero, List.drop_succ_cons, List.drop_zero]
          repeat (first | (refine wpLex_skip rfl ?_; simp only [Act.put, List.setIfInBounds_toArray, List.set_cons_zero, List.set_cons_succ]) | (refine wpLex_fix rfl ?_; intro F hF R hR hne K hK; go_big_quiet_op; first | (go_big_quiet_on; clear hne hR R hF F) | (apply Exists.intro; refine ⟨fun g => ?_, ?_⟩; (((first | (rw [if_neg (by first | omega | (simp; omega))]; exact ⟨rfl, rfl⟩) | (rw [GrE.cell g _ _ z1d]; go_simp; first | exact ⟨rfl, rfl⟩ | rfl) | (go_simp; (repeat (simp only [GrE.cell g _ _ z1d]; go_simp)); first | exact ⟨rfl, rfl⟩ | rfl) | (go_at_call 21; exact GrE.call hR (rnum_blk (GrE.blk g (hF.out _ _ _ (by decide) (.inr ⟨rfl, rfl, rfl⟩))) [x.flags] _ rfl rfl HIF.out (by simp))) | (go_at_call 20; first | exact GrE.call hR (ror_any x.cls _ HGX.out.1) | exact GrE.call hR (ror_any x.outer _ HGX.out.2.1) | exact GrE.call hR (ror_any x.name _ HGX.out.2.2.1))))); go_big_quiet_on; clear hne hR R hF F)) | (apply wpLex_blk rfl; (focus (intro x hx; go_simp; exact ⟨rfl, rfl⟩)); intro B hB; simp only [Act.put, blkVal, List.setIfInBounds_toArray, List.set_cons_zero, List.set_cons_succ]))
          refine wpLex_nil ?_
          intro w1 hw1
          have F1 := hw1.fact 80 _ _ (.inr ⟨rfl, rfl, rfl⟩)
          rw [hcat.out] at F1
          have kk := (Below.refl W4.heap.size W4).drew.trans hw1.below
          have zz : w.heap.size ≤ w1.heap.size := Nat.le_trans K4.out.size kk.size
          have R5 := Lib.hid (R4.out.grow kk)
          have K5 := Lib.hid (K4.out.trans (kk.mono K4.out.size))
          have X5 := Lib.hid ((kk.block _ (Array.getElem?_eq_some_iff.1 X4.out).1).trans X4.out)
          have E5 := Lib.hid ((kk.block _ z4).trans E4.out)
          have FB := Lib.hid F1.2
          clear hw1 F1 f1 f2 z1d kk R4 K4 X4 E4 hcat
          have hnn : (U2 ++ (y.attrs.inners.take i).map Li.inr).length ≤ 1000000000000 := by rw [List.length_append, List.length_map, List.length_take]; omega
          go_wp2_with (at_builtin; refine wpList_appS rfl _ _ rfl w.heap.size _ _ rfl R5.out _ (Li.inr x) _ _ rfl FB.out hnn zz ?_; intro v2 w2 hr2 hh2; have R6 := Lib.hid hr2; have K6 := Lib.hid (K5.out.trans (hh2.below zz (fun k hk => (World.ownsRow.lt R5.out k hk).1))); have X6 := Lib.hid ((hh2.1.block _ (Array.getElem?_eq_some_iff.1 X5.out).1 (own_ne R5.out X5.out (by decide))).trans X5.out); clear hr2 hh2)
          refine ⟨⟨i + 1, h1, rfl, ?_, K6.out, X6.out⟩, less_next h1⟩
          rw [HSN.out, ← List.append_assoc]
          exact R6.out
        · as_aux_lemma =>
          have hie : i = y.attrs.inners.length := by omega
          subst hie
          rw [List.take_length] at hR0
          obtain ⟨U3, hU3⟩ : ∃ z, z = U2 ++ y.attrs.inners.map Li.inr := ⟨_, rfl⟩
          rw [← hU3] at hR0
          have HU3 := Lib.hid hU3
          have R3 := Lib.hid hR0
          have K3 := Lib.hid hK0
          have X3 := Lib.hid hX0
          clear hU3 hR0 hK0 hX0
          have hu3 : U3.length ≤ 20000000 := by rw [HU3.out, List.length_append, List.length_map]; omega
          have e3 : wr.cell? ⟨w.heap.size, 6, none⟩ = some (.slice B6 y.fields.length d6) := by rw [Lib.cell_of_heap X3.out]; rfl
          have hq4 := (Array.getElem?_eq_some_iff.1 X3.out).1
          go_upto_region 13 with fail
          clear e3 hq4
          go_loopw [3, 86] (fun s3 sI wr => ∃ i : Nat, i ≤ y.fields.length ∧ sI = .int .i64 i ∧ TRow wr w.heap.size s3 (U3 ++ (y.fields.take i).map (Li.member [102, 105, 101, 108, 100])) ∧ Below w.heap.size w wr ∧ wr.heap[w.heap.size]? = some (.cells #[.int .i64 y.minor, .int .i64 y.major, .int .i64 y.flags, .string (bs y.this), .string (bs y.super), .slice B5 y.faces.length d5, .slice B6 y.fields.length d6, .slice B7 y.methods.length d7, .int .i64 y.attrs.has, .int .i64 y.attrs.code.stack, .int .i64 y.attrs.code.locals, .slice C0 y.attrs.code.ops.length e0, .slice C1 y.attrs.code.handlers.length e1, .int .i64 y.attrs.code.has, .slice C2 y.attrs.code.lines.length e2, .slice C3 y.attrs.code.slots.length e3, .int .i64 y.attrs.value.tag, .string (bs y.attrs.value.text), .int .u64 y.attrs.value.bits, .string (bs y.attrs.value.cls), .string (bs y.attrs.value.name), .string (bs y.attrs.value.desc), .slice C4 y.attrs.throws.length e4, .slice C5 y.attrs.inners.length e5, .string (bs y.attrs.signature), .string (bs y.attrs.source)] 37 (0, 0))) (fun _ sI _ => y.fields.length - (intOf sI).toNat)
          case atStart => exact ⟨0, Nat.zero_le _, rfl, by simpa using R3.out, K3.out, X3.out⟩
          case round =>
            obtain ⟨i, hil, rfl, hR0, hK0, hX0⟩ := hrel
            by_cases h1 : i < y.fields.length
            · as_aux_lemma =>
              obtain ⟨g, o, x, cx, rfl, hgw, hx, hrx, hcl, hcx⟩ := HS6.out.at_ h1
              have HGX := Lib.hid (HGHS6.out x (List.mem_of_getElem? hx))
              have HSN := Lib.hid (map_snoc (Li.member [102, 105, 101, 108, 100]) hx)
              have hcw := hcx.grow hK0 hgw
              have HONE := Lib.hid (mbr_one cx x hrx)
              have HRX := Lib.hid (fun w' (k : Below w.heap.size w w') => Mbr.rd_grow hrx k)
              obtain ⟨Ma0, mc0, Ma1, mc1, Ma2, mc2, Ma3, mc3, Ma4, mc4, Ma5, mc5, rfl, _⟩ := Mbr.leafs hrx
              have hgr : g < wr.heap.size := Nat.lt_of_lt_of_le hgw hK0.size
              have HCW := Lib.hid hcw
              have hcl1 : (Tryd.prog.info? 59).map (·.size) = some 21 := by kernel_rfl
              have k4 := (Below.refl wr.heap.size wr).alloc (Nat.le_refl _) (.cells #[.int .i64 x.flags, .string (bs x.name), .string (bs x.desc), .int .i64 x.attrs.has, .int .i64 x.attrs.code.stack, .int .i64 x.attrs.code.locals, .slice Ma0 x.attrs.code.ops.length mc0, .slice Ma1 x.attrs.code.handlers.length mc1, .int .i64 x.attrs.code.has, .slice Ma2 x.attrs.code.lines.length mc2, .slice Ma3 x.attrs.code.slots.length mc3, .int .i64 x.attrs.value.tag, .string (bs x.attrs.value.text), .int .u64 x.attrs.value.bits, .string (bs x.attrs.value.cls), .string (bs x.attrs.value.name), .string (bs x.attrs.value.desc), .slice Ma4 x.attrs.throws.length mc4, .slice Ma5 x.attrs.inners.length mc5, .string (bs x.attrs.signature), .string (bs x.attrs.source)] 59)
              have E4 := Lib.hid (heap_alloc_new wr (.cells #[.int .i64 x.flags, .string (bs x.name), .string (bs x.desc), .int .i64 x.attrs.has, .int .i64 x.attrs.code.stack, .int .i64 x.attrs.code.locals, .slice Ma0 x.attrs.code.ops.length mc0, .slice Ma1 x.attrs.code.handlers.length mc1, .int .i64 x.attrs.code.has, .slice Ma2 x.attrs.code.lines.length mc2, .slice Ma3 x.attrs.code.slots.length mc3, .int .i64 x.attrs.value.tag, .string (bs x.attrs.value.text), .int .u64 x.attrs.value.bits, .string (bs x.attrs.value.cls), .string (bs x.attrs.value.name), .string (bs x.attrs.value.desc), .slice Ma4 x.attrs.throws.length mc4, .slice Ma5 x.attrs.inners.length mc5, .string (bs x.attrs.signature), .string (bs x.attrs.source)] 59))
              have R4 := Lib.hid (hR0.grow k4)
              have K4 := Lib.hid (hK0.trans (k4.mono hK0.size))
              have X4 := Lib.hid ((k4.block w.heap.size (Array.getElem?_eq_some_iff.1 hX0).1).trans hX0)
              clear hR0 hK0 hX0 hcw hcx hrx hcl k4 hgw
              go_upto_region 15 with (first | (refine wpList_load_cells rfl 59 _ rfl g (o + i * 21) rfl _ HCW.out _ Tryd.underlying59 rfl hcl1 ?_) | (refine wpList_store_fresh rfl 59 _ _ rfl wr _ [.int .i64 x.flags, .string (bs x.name), .string (bs x.desc), .int .i64 x.attrs.has, .int .i64 x.attrs.code.stack, .int .i64 x.attrs.code.locals, .slice Ma0 x.attrs.code.ops.length mc0, .slice Ma1 x.attrs.code.handlers.length mc1, .int .i64 x.attrs.code.has, .slice Ma2 x.attrs.code.lines.length mc2, .slice Ma3 x.attrs.code.slots.length mc3, .int .i64 x.attrs.value.tag, .string (bs x.attrs.value.text), .int .u64 x.attrs.value.bits, .string (bs x.attrs.value.cls), .string (bs x.attrs.value.name), .string (bs x.attrs.value.desc), .slice Ma4 x.attrs.throws.length mc4, .slice Ma5 x.attrs.inners.length mc5, .string (bs x.attrs.signature), .string (bs x.attrs.source)] 59 rfl rfl hcl1 rfl HONE.out ?_))
              generalize hW4 : wr.alloc (.cells #[.int .i64 x.flags, .string (bs x.name), .string (bs x.desc), .int .i64 x.attrs.has, .int .i64 x.attrs.code.stack, .int .i64 x.attrs.code.locals, .slice Ma0 x.attrs.code.ops.length mc0, .slice Ma1 x.attrs.code.handlers.length mc1, .int .i64 x.attrs.code.has, .slice Ma2 x.attrs.code.lines.length mc2, .slice Ma3 x.attrs.code.slots.length mc3, .int .i64 x.attrs.value.tag, .string (bs x.attrs.value.text), .int .u64 x.attrs.value.bits, .string (bs x.attrs.value.cls), .string (bs x.attrs.value.name), .string (bs x.attrs.value.desc), .slice Ma4 x.attrs.throws.length mc4, .slice Ma5 x.attrs.inners.length mc5, .string (bs x.attrs.signature), .string (bs x.attrs.source)] 59) = W4 at E4 R4 K4 X4 ⊢
              have z4 : wr.heap.size < W4.heap.size := (Array.getElem?_eq_some_iff.1 E4.out).1
              clear hW4 hgr HCW HONE
              obtain ⟨hxf, hxn, hxd, hxg, hxb, _⟩ := member_ok [102, 105, 101, 108, 100] (by decide) HGX.out.1 HGX.out.2
              have HIF := Lib.hid (num1_ok hxf)
              have zf : (bs (Ri.num [x.flags])).size ≤ 21 := by rw [bs_size]; exact rnum_len HIF.out
              have z_name : (bs (Ri.or x.name)).size ≤ 300000002 := by rw [bs_size]; have := rior_len x.name; omega
              have z_desc : (bs (Ri.or x.desc)).size ≤ 300000002 := by rw [bs_size]; have := rior_len x.desc; omega
              have z_b : (bs (Ri.beside x.attrs)).size ≤ 6000201 := by rw [bs_size]; have := rbeside_len x.attrs hxg; omega
              have hcat := Lib.hid (show (⟨#[102, 105, 101, 108, 100]⟩ : ByteArray) ++ bs (Ri.num [x.flags]) ++ bs (Ri.or x.name) ++ bs (Ri.or x.desc) ++ bs (Ri.beside x.attrs) = bs (Li.member [102, 105, 101, 108, 100] x) from member_text [102, 105, 101, 108, 100] x)
              have HCA := Lib.hid (show CellsAt W4.drew wr.heap.size 3 [.int .i64 x.attrs.has, .int .i64 x.attrs.code.stack, .int .i64 x.attrs.code.locals, .slice Ma0 x.attrs.code.ops.length mc0, .slice Ma1 x.attrs.code.handlers.length mc1, .int .i64 x.attrs.code.has, .slice Ma2 x.attrs.code.lines.length mc2, .slice Ma3 x.attrs.code.slots.length mc3, .int .i64 x.attrs.value.tag, .string (bs x.attrs.value.text), .int .u64 x.attrs.value.bits, .string (bs x.attrs.value.cls), .string (bs x.attrs.value.name), .string (bs x.attrs.value.desc), .slice Ma4 x.attrs.throws.length mc4, .slice Ma5 x.attrs.inners.length mc5, .string (bs x.attrs.signature), .string (bs x.attrs.source)] from cellsAt_block (w := W4.drew) E4.out 3 18)
              have hcl18 : (Tryd.prog.info? 35).map (·.size) = some 18 := by kernel_rfl
              have HAR1 := Lib.hid (show Atr.rd W4.drew [.int .i64 x.attrs.has, .int .i64 x.attrs.code.stack, .int .i64 x.attrs.code.locals, .slice Ma0 x.attrs.code.ops.length mc0, .slice Ma1 x.attrs.code.handlers.length mc1, .int .i64 x.attrs.code.has, .slice Ma2 x.attrs.code.lines.length mc2, .slice Ma3 x.attrs.code.slots.length mc3, .int .i64 x.attrs.value.tag, .string (bs x.attrs.value.text), .int .u64 x.attrs.value.bits, .string (bs x.attrs.value.cls), .string (bs x.attrs.value.name), .string (bs x.attrs.value.desc), .slice Ma4 x.attrs.throws.length mc4, .slice Ma5 x.attrs.inners.length mc5, .string (bs x.attrs.signature), .string (bs x.attrs.source)] x.attrs from (HRX.out W4.drew K4.out.drew).2.2.2.2)
              obtain ⟨f1, f2⟩ := blk_facts E4.out
              have z1d : wr.heap.size < W4.drew.heap.size := z4
              dsimp only [Act.put]
              refine wp_region_ordL 19 (by kernel_rfl) (by kernel_rfl) (fun _ _ d _ _ h => by cases d <;> exact h) ?_
              simp only [List.take_succ_cons, List.take_zero, List.drop_succ_cons, List.drop_zero]
              repeat (first | ((refine wpLex_load rfl 35 _ rfl wr.heap.size 3 rfl _ HCA.out z1d _ Tryd.underlying35 rfl hcl18 ?_); simp only [Act.put, List.setIfInBounds_toArray, List.set_cons_zero, List.set_cons_succ]) | (refine wpLex_skip rfl ?_; simp only [Act.put, List.setIfInBounds_toArray, List.set_cons_zero, List.set_cons_succ]) | (refine wpLex_fix rfl ?_; intro F hF R hR hne K hK; go_big_quiet_op; first | (go_big_quiet_on; clear hne hR R hF F) | (apply Exists.intro; refine ⟨fun g => ?_, ?_⟩; (((first | (rw [if_neg (by first | omega | (simp; omega))]; exact ⟨rfl, rfl⟩) | (rw [GrE.cell g _ _ z1d]; go_simp; first | exact ⟨rfl, rfl⟩ | rfl) | (go_simp; (repeat (simp only [GrE.cell g _ _ z1d]; go_simp)); first | exact ⟨rfl, rfl⟩ | rfl) | (go_at_call 21; exact GrE.call hR (rnum_blk (GrE.blk g (hF.out _ _ _ (by decide) (.inr ⟨rfl, rfl, rfl⟩))) [x.flags] _ rfl rfl HIF.out (by simp))) | (go_at_call 20; first | exact GrE.call hR (ror_any x.name _ hxn) | exact GrE.call hR (ror_any x.desc _ hxd)) | (go_at_call 22; exact GrE.call hR (rbeside_any _ x.attrs _ (Atr.rd_grow HAR1.out (GrE.below g)) hxg hxb))))); go_big_quiet_on; clear hne hR R hF F)) | (apply wpLex_blk rfl; (focus (intro x hx; go_simp; exact ⟨rfl, rfl⟩)); intro B hB; simp only [Act.put, blkVal, List.setIfInBounds_toArray, List.set_cons_zero, List.set_cons_succ]))
              refine wpLex_nil ?_
              intro w1 hw1
              have F1 := hw1.fact 108 _ _ (.inr ⟨rfl, rfl, rfl⟩)
              rw [hcat.out] at F1
              have kk := (Below.refl W4.heap.size W4).drew.trans hw1.below
              have zz : w.heap.size ≤ w1.heap.size := Nat.le_trans K4.out.size kk.size
              have R5 := Lib.hid (R4.out.grow kk)
              have K5 := Lib.hid (K4.out.trans (kk.mono K4.out.size))
              have X5 := Lib.hid ((kk.block _ (Array.getElem?_eq_some_iff.1 X4.out).1).trans X4.out)
              have E5 := Lib.hid ((kk.block _ z4).trans E4.out)
              have FB := Lib.hid F1.2
              clear hw1 F1 f1 f2 z1d kk R4 K4 X4 E4 hcat
              clear HCA hcl18 HAR1
              have hnn : (U3 ++ (y.fields.take i).map (Li.member [102, 105, 101, 108, 100])).length ≤ 1000000000000 := by rw [List.length_append, List.length_map, List.length_take]; omega
              go_wp2_with (at_builtin; refine wpList_appS rfl _ _ rfl w.heap.size _ _ rfl R5.out _ (Li.member [102, 105, 101, 108, 100] x) _ _ rfl FB.out hnn zz ?_; intro v2 w2 hr2 hh2; have R6 := Lib.hid hr2; have K6 := Lib.hid (K5.out.trans (hh2.below zz (fun k hk => (World.ownsRow.lt R5.out k hk).1))); have X6 := Lib.hid ((hh2.1.block _ (Array.getElem?_eq_some_iff.1 X5.out).1 (own_ne R5.out X5.out (by decide))).trans X5.out); clear hr2 hh2)
              refine ⟨⟨i + 1, h1, rfl, ?_, K6.out, X6.out⟩, less_next h1⟩
              rw [HSN.out, ← List.append_assoc]
              exact R6.out
            · as_aux_lemma =>
              have hie : i = y.fields.length := by omega
              subst hie
              rw [List.take_length] at hR0
              obtain ⟨U4, hU4⟩ : ∃ z, z = U3 ++ y.fields.map (Li.member [102, 105, 101, 108, 100]) := ⟨_, rfl⟩
              rw [← hU4] at hR0
              have HU4 := Lib.hid hU4
              have R4 := Lib.hid hR0
              have K4 := Lib.hid hK0
              have X4 := Lib.hid hX0
              clear hU4 hR0 hK0 hX0
              have hu4 : U4.length ≤ 30000000 := by rw [HU4.out, List.length_append, List.length_map]; omega
              have e3 : wr.cell? ⟨w.heap.size, 7, none⟩ = some (.slice B7 y.methods.length d7) := by rw [Lib.cell_of_heap X4.out]; rfl
              have hq4 := (Array.getElem?_eq_some_iff.1 X4.out).1
              go_upto_region 18 with fail
              clear e3 hq4
              go_loopw [3, 114] (fun s3 sI wr => ∃ i : Nat, i ≤ y.methods.length ∧ sI = .int .i64 i ∧ TRow wr w.heap.size s3 (U4 ++ (y.methods.take i).flatMap Li.method) ∧ Below w.heap.size w wr ∧ wr.heap[w.heap.size]? = some (.cells #[.int .i64 y.minor, .int .i64 y.major, .int .i64 y.flags, .string (bs y.this), .string (bs y.super), .slice B5 y.faces.length d5, .slice B6 y.fields.length d6, .slice B7 y.methods.length d7, .int .i64 y.attrs.has, .int .i64 y.attrs.code.stack, .int .i64 y.attrs.code.locals, .slice C0 y.attrs.code.ops.length e0, .slice C1 y.attrs.code.handlers.length e1, .int .i64 y.attrs.code.has, .slice C2 y.attrs.code.lines.length e2, .slice C3 y.attrs.code.slots.length e3, .int .i64 y.attrs.value.tag, .string (bs y.attrs.value.text), .int .u64 y.attrs.value.bits, .string (bs y.attrs.value.cls), .string (bs y.attrs.value.name), .string (bs y.attrs.value.desc), .slice C4 y.attrs.throws.length e4, .slice C5 y.attrs.inners.length e5, .string (bs y.attrs.signature), .string (bs y.attrs.source)] 37 (0, 0))) (fun _ sI _ => y.methods.length - (intOf sI).toNat)
              case atStart => exact ⟨0, Nat.zero_le _, rfl, by simpa using R4.out, K4.out, X4.out⟩
              case round =>
                obtain ⟨i, hil, rfl, hR0, hK0, hX0⟩ := hrel
                by_cases h1 : i < y.methods.length
                · as_aux_lemma =>
                  obtain ⟨g, o, x, cx, rfl, hgw, hx, hrx, hcl, hcx⟩ := HS7.out.at_ h1
                  have HGX := Lib.hid (HGHS7.out x (List.mem_of_getElem? hx))
                  have HSN := Lib.hid (meth_snoc hx)
                  have hcw := hcx.grow hK0 hgw
                  have HONE := Lib.hid (mbr_one cx x hrx)
                  have HRX := Lib.hid (fun w' (k : Below w.heap.size w w') => Mbr.rd_grow hrx k)
                  obtain ⟨Ma0, mc0, Ma1, mc1, Ma2, mc2, Ma3, mc3, Ma4, mc4, Ma5, mc5, rfl, _⟩ := Mbr.leafs hrx
                  have hgr : g < wr.heap.size := Nat.lt_of_lt_of_le hgw hK0.size
                  have HCW := Lib.hid hcw
                  have hcl1 : (Tryd.prog.info? 59).map (·.size) = some 21 := by kernel_rfl
                  have k4 := (Below.refl wr.heap.size wr).alloc (Nat.le_refl _) (.cells #[.int .i64 x.flags, .string (bs x.name), .string (bs x.desc), .int .i64 x.attrs.has, .int .i64 x.attrs.code.stack, .int .i64 x.attrs.code.locals, .slice Ma0 x.attrs.code.ops.length mc0, .slice Ma1 x.attrs.code.handlers.length mc1, .int .i64 x.attrs.code.has, .slice Ma2 x.attrs.code.lines.length mc2, .slice Ma3 x.attrs.code.slots.length mc3, .int .i64 x.attrs.value.tag, .string (bs x.attrs.value.text), .int .u64 x.attrs.value.bits, .string (bs x.attrs.value.cls), .string (bs x.attrs.value.name), .string (bs x.attrs.value.desc), .slice Ma4 x.attrs.throws.length mc4, .slice Ma5 x.attrs.inners.length mc5, .string (bs x.attrs.signature), .string (bs x.attrs.source)] 59)
                  have E4 := Lib.hid (heap_alloc_new wr (.cells #[.int .i64 x.flags, .string (bs x.name), .string (bs x.desc), .int .i64 x.attrs.has, .int .i64 x.attrs.code.stack, .int .i64 x.attrs.code.locals, .slice Ma0 x.attrs.code.ops.length mc0, .slice Ma1 x.attrs.code.handlers.length mc1, .int .i64 x.attrs.code.has, .slice Ma2 x.attrs.code.lines.length mc2, .slice Ma3 x.attrs.code.slots.length mc3, .int .i64 x.attrs.value.tag, .string (bs x.attrs.value.text), .int .u64 x.attrs.value.bits, .string (bs x.attrs.value.cls), .string (bs x.attrs.value.name), .string (bs x.attrs.value.desc), .slice Ma4 x.attrs.throws.length mc4, .slice Ma5 x.attrs.inners.length mc5, .string (bs x.attrs.signature), .string (bs x.attrs.source)] 59))
                  have R4 := Lib.hid (hR0.grow k4)
                  have K4 := Lib.hid (hK0.trans (k4.mono hK0.size))
                  have X4 := Lib.hid ((k4.block w.heap.size (Array.getElem?_eq_some_iff.1 hX0).1).trans hX0)
                  clear hR0 hK0 hX0 hcw hcx hrx hcl k4 hgw
                  go_upto_region 20 with (first | (refine wpList_load_cells rfl 59 _ rfl g (o + i * 21) rfl _ HCW.out _ Tryd.underlying59 rfl hcl1 ?_) | (refine wpList_store_fresh rfl 59 _ _ rfl wr _ [.int .i64 x.flags, .string (bs x.name), .string (bs x.desc), .int .i64 x.attrs.has, .int .i64 x.attrs.code.stack, .int .i64 x.attrs.code.locals, .slice Ma0 x.attrs.code.ops.length mc0, .slice Ma1 x.attrs.code.handlers.length mc1, .int .i64 x.attrs.code.has, .slice Ma2 x.attrs.code.lines.length mc2, .slice Ma3 x.attrs.code.slots.length mc3, .int .i64 x.attrs.value.tag, .string (bs x.attrs.value.text), .int .u64 x.attrs.value.bits, .string (bs x.attrs.value.cls), .string (bs x.attrs.value.name), .string (bs x.attrs.value.desc), .slice Ma4 x.attrs.throws.length mc4, .slice Ma5 x.attrs.inners.length mc5, .string (bs x.attrs.signature), .string (bs x.attrs.source)] 59 rfl rfl hcl1 rfl HONE.out ?_))
                  generalize hW4 : wr.alloc (.cells #[.int .i64 x.flags, .string (bs x.name), .string (bs x.desc), .int .i64 x.attrs.has, .int .i64 x.attrs.code.stack, .int .i64 x.attrs.code.locals, .slice Ma0 x.attrs.code.ops.length mc0, .slice Ma1 x.attrs.code.handlers.length mc1, .int .i64 x.attrs.code.has, .slice Ma2 x.attrs.code.lines.length mc2, .slice Ma3 x.attrs.code.slots.length mc3, .int .i64 x.attrs.value.tag, .string (bs x.attrs.value.text), .int .u64 x.attrs.value.bits, .string (bs x.attrs.value.cls), .string (bs x.attrs.value.name), .string (bs x.attrs.value.desc), .slice Ma4 x.attrs.throws.length mc4, .slice Ma5 x.attrs.inners.length mc5, .string (bs x.attrs.signature), .string (bs x.attrs.source)] 59) = W4 at E4 R4 K4 X4 ⊢
                  have z4 : wr.heap.size < W4.heap.size := (Array.getElem?_eq_some_iff.1 E4.out).1
                  clear hW4 hgr HCW HONE
                  obtain ⟨hxf, hxn, hxd, hxg, hxb, _⟩ := member_ok [109, 101, 116, 104, 111, 100] (by decide) HGX.out.1 HGX.out.2
                  have HIF := Lib.hid (num1_ok hxf)
                  have zf : (bs (Ri.num [x.flags])).size ≤ 21 := by rw [bs_size]; exact rnum_len HIF.out
                  have z_name : (bs (Ri.or x.name)).size ≤ 300000002 := by rw [bs_size]; have := rior_len x.name; omega
                  have z_desc : (bs (Ri.or x.desc)).size ≤ 300000002 := by rw [bs_size]; have := rior_len x.desc; omega
                  have z_b : (bs (Ri.beside x.attrs)).size ≤ 6000201 := by rw [bs_size]; have := rbeside_len x.attrs hxg; omega
                  have hcat := Lib.hid (show (⟨#[109, 101, 116, 104, 111, 100]⟩ : ByteArray) ++ bs (Ri.num [x.flags]) ++ bs (Ri.or x.name) ++ bs (Ri.or x.desc) ++ bs (Ri.beside x.attrs) = bs (Li.member [109, 101, 116, 104, 111, 100] x) from member_text [109, 101, 116, 104, 111, 100] x)
                  have HCA := Lib.hid (show CellsAt W4.drew wr.heap.size 3 [.int .i64 x.attrs.has, .int .i64 x.attrs.code.stack, .int .i64 x.attrs.code.locals, .slice Ma0 x.attrs.code.ops.length mc0, .slice Ma1 x.attrs.code.handlers.length mc1, .int .i64 x.attrs.code.has, .slice Ma2 x.attrs.code.lines.length mc2, .slice Ma3 x.attrs.code.slots.length mc3, .int .i64 x.attrs.value.tag, .string (bs x.attrs.value.text), .int .u64 x.attrs.value.bits, .string (bs x.attrs.value.cls), .string (bs x.attrs.value.name), .string (bs x.attrs.value.desc), .slice Ma4 x.attrs.throws.length mc4, .slice Ma5 x.attrs.inners.length mc5, .string (bs x.attrs.signature), .string (bs x.attrs.source)] from cellsAt_block (w := W4.drew) E4.out 3 18)
                  have hcl18 : (Tryd.prog.info? 35).map (·.size) = some 18 := by kernel_rfl
                  have HAR1 := Lib.hid (show Atr.rd W4.drew [.int .i64 x.attrs.has, .int .i64 x.attrs.code.stack, .int .i64 x.attrs.code.locals, .slice Ma0 x.attrs.code.ops.length mc0, .slice Ma1 x.attrs.code.handlers.length mc1, .int .i64 x.attrs.code.has, .slice Ma2 x.attrs.code.lines.length mc2, .slice Ma3 x.attrs.code.slots.length mc3, .int .i64 x.attrs.value.tag, .string (bs x.attrs.value.text), .int .u64 x.attrs.value.bits, .string (bs x.attrs.value.cls), .string (bs x.attrs.value.name), .string (bs x.attrs.value.desc), .slice Ma4 x.attrs.throws.length mc4, .slice Ma5 x.attrs.inners.length mc5, .string (bs x.attrs.signature), .string (bs x.attrs.source)] x.attrs from (HRX.out W4.drew K4.out.drew).2.2.2.2)
                  obtain ⟨f1, f2⟩ := blk_facts E4.out
                  have z1d : wr.heap.size < W4.drew.heap.size := z4
                  dsimp only [Act.put]
                  refine wp_region_ordL 19 (by kernel_rfl) (by kernel_rfl) (fun _ _ d _ _ h => by cases d <;> exact h) ?_
                  simp only [List.take_succ_cons, List.take_zero, List.drop_succ_cons, List.drop_zero]
                  repeat (first | ((refine wpLex_load rfl 35 _ rfl wr.heap.size 3 rfl _ HCA.out z1d _ Tryd.underlying35 rfl hcl18 ?_); simp only [Act.put, List.setIfInBounds_toArray, List.set_cons_zero, List.set_cons_succ]) | (refine wpLex_skip rfl ?_; simp only [Act.put, List.setIfInBounds_toArray, List.set_cons_zero, List.set_cons_succ]) | (refine wpLex_fix rfl ?_; intro F hF R hR hne K hK; go_big_quiet_op; first | (go_big_quiet_on; clear hne hR R hF F) | (apply Exists.intro; refine ⟨fun g => ?_, ?_⟩; (((first | (rw [if_neg (by first | omega | (simp; omega))]; exact ⟨rfl, rfl⟩) | (rw [GrE.cell g _ _ z1d]; go_simp; first | exact ⟨rfl, rfl⟩ | rfl) | (go_simp; (repeat (simp only [GrE.cell g _ _ z1d]; go_simp)); first | exact ⟨rfl, rfl⟩ | rfl) | (go_at_call 21; exact GrE.call hR (rnum_blk (GrE.blk g (hF.out _ _ _ (by decide) (.inr ⟨rfl, rfl, rfl⟩))) [x.flags] _ rfl rfl HIF.out (by simp))) | (go_at_call 20; first | exact GrE.call hR (ror_any x.name _ hxn) | exact GrE.call hR (ror_any x.desc _ hxd)) | (go_at_call 22; exact GrE.call hR (rbeside_any _ x.attrs _ (Atr.rd_grow HAR1.out (GrE.below g)) hxg hxb))))); go_big_quiet_on; clear hne hR R hF F)) | (apply wpLex_blk rfl; (focus (intro x hx; go_simp; exact ⟨rfl, rfl⟩)); intro B hB; simp only [Act.put, blkVal, List.setIfInBounds_toArray, List.set_cons_zero, List.set_cons_succ]))
                  refine wpLex_nil ?_
                  intro w1 hw1
                  have F1 := hw1.fact 136 _ _ (.inr ⟨rfl, rfl, rfl⟩)
                  rw [hcat.out] at F1
                  have kk := (Below.refl W4.heap.size W4).drew.trans hw1.below
                  have zz : w.heap.size ≤ w1.heap.size := Nat.le_trans K4.out.size kk.size
                  have R5 := Lib.hid (R4.out.grow kk)
                  have K5 := Lib.hid (K4.out.trans (kk.mono K4.out.size))
                  have X5 := Lib.hid ((kk.block _ (Array.getElem?_eq_some_iff.1 X4.out).1).trans X4.out)
                  have E5 := Lib.hid ((kk.block _ z4).trans E4.out)
                  have FB := Lib.hid F1.2
                  clear hw1 F1 f1 f2 z1d kk R4 K4 X4 E4 hcat
                  clear HCA hcl18 HAR1
                  have hn6 := HN5.out i
                  obtain ⟨V, hV⟩ : ∃ V, V = U4 ++ (y.methods.take i).flatMap Li.method := ⟨_, rfl⟩
                  have hvl : V.length ≤ 40000000 := by rw [hV, List.length_append]; omega
                  rw [← hV] at R5
                  have HV := Lib.hid hV
                  clear hV
                  go_upto_region 21 with (at_builtin; refine wpList_appS rfl _ _ rfl w.heap.size _ _ rfl R5.out _ (Li.member [109, 101, 116, 104, 111, 100] x) _ _ rfl FB.out (by omega) zz ?_; intro v2 w2 hr2 hh2; have R6 := Lib.hid hr2; have K6 := Lib.hid (K5.out.trans (hh2.below zz (fun k hk => (World.ownsRow.lt R5.out k hk).1))); have X6 := Lib.hid ((hh2.1.block _ (Array.getElem?_eq_some_iff.1 X5.out).1 (own_ne R5.out X5.out (by decide))).trans X5.out); have E6 := Lib.hid ((hh2.1.block _ (Array.getElem?_eq_some_iff.1 E5.out).1 (own_ne R5.out E5.out (by decide))).trans E5.out); clear hr2 hh2)
                  clear R5 K5 X5 E5 FB zf z_name z_desc z_b
                  have e3 : w2.cell? ⟨wr.heap.size, 3, none⟩ = some (.int .i64 x.attrs.has) := by rw [Lib.cell_of_heap E6.out]; rfl
                  have hq4 := (Array.getElem?_eq_some_iff.1 E6.out).1
                  have z6 := K6.out.size
                  cases hh : hasB x.attrs.has 1 with
                  | false =>
                    have hh2 : (bits .and .i64 x.attrs.has 1 != 0) = false := hh
                    have HE := Lib.hid (show U4 ++ (y.methods.take (i + 1)).flatMap Li.method = V ++ [Li.member [109, 101, 116, 104, 111, 100] x] by rw [HSN.out, HV.out, List.append_assoc]; unfold Li.method; rw [hh]; rfl)
                    go_wp2_with fail
                    refine ⟨⟨i + 1, h1, rfl, by rw [HE.out]; exact R6.out, K6.out, X6.out⟩, less_next h1⟩
                  | true =>
                    have hh2 : (bits .and .i64 x.attrs.has 1 != 0) = true := hh
                    have HE := Lib.hid (show U4 ++ (y.methods.take (i + 1)).flatMap Li.method = V ++ [Li.member [109, 101, 116, 104, 111, 100] x] ++ Li.code x.attrs.code by rw [HSN.out, HV.out, List.append_assoc, List.append_assoc]; unfold Li.method; rw [hh]; rfl)
                    have hcb : x.attrs.code.blk ≤ 2000000 := by have := HGX.out.2; unfold Mbr.blk Atr.blk at this; omega
                    have HRC := Lib.hid (show Cde.rd w2 [.int .i64 x.attrs.code.stack, .int .i64 x.attrs.code.locals, .slice Ma0 x.attrs.code.ops.length mc0, .slice Ma1 x.attrs.code.handlers.length mc1, .int .i64 x.attrs.code.has, .slice Ma2 x.attrs.code.lines.length mc2, .slice Ma3 x.attrs.code.slots.length mc3] x.attrs.code from (HRX.out w2 K6.out).2.2.2.2.2.2.1)
                    have HCX := Lib.hid (show CellsAt w2 wr.heap.size 4 [.int .i64 x.attrs.code.stack, .int .i64 x.attrs.code.locals, .slice Ma0 x.attrs.code.ops.length mc0, .slice Ma1 x.attrs.code.handlers.length mc1, .int .i64 x.attrs.code.has, .slice Ma2 x.attrs.code.lines.length mc2, .slice Ma3 x.attrs.code.slots.length mc3] from cellsAt_block E6.out 4 7)
                    have hcl7 : (Tryd.prog.info? 29).map (·.size) = some 7 := by kernel_rfl
                    have CX := Lib.hid (rcode_any w2 x.attrs.code _ HRC.out HGX.out.1.2.2.2.2.1 hcb)
                    go_upto_region 22 with fail
                    go_upto_region 23 with (refine wpList_load_cells rfl 29 _ rfl wr.heap.size 4 rfl _ HCX.out _ Tryd.underlying29 rfl hcl7 ?_)
                    refine CX.out.mono ?_
                    rintro e w3 ⟨v3, rfl, hr3, hb3⟩
                    obtain ⟨A3, c3, rfl, hS3⟩ := hr3.reads
                    have HSR := Lib.hid hS3.src
                    have zz3 := Nat.le_trans z6 hb3.size
                    have R7 := Lib.hid (R6.out.grow hb3)
                    have K7 := Lib.hid (K6.out.trans (hb3.mono z6))
                    have X7 := Lib.hid ((hb3.block _ (Array.getElem?_eq_some_iff.1 X6.out).1).trans X6.out)
                    have hcl : (Li.code x.attrs.code).length ≤ 2000000 := by have h1 := method_len x; have h2 := HGX.out.2; unfold Li.method at h1; rw [hh] at h1; simp only [if_true, List.length_cons] at h1; omega
                    have hnn : (V ++ [Li.member [109, 101, 116, 104, 111, 100] x]).length + (Li.code x.attrs.code).length ≤ 1000000000000 := by rw [List.length_append, List.length_singleton]; omega
                    clear hr3 hb3 CX HCX hcl7 HRC hS3 R6 K6 X6 E6 e3 hq4 hh2
                    go_wp2_with (at_builtin; refine wpList_appT rfl _ _ rfl w.heap.size _ _ rfl R7.out _ _ rfl HSR.out hnn zz3 ?_; intro v8 w8 hr8 hh8; have R8 := Lib.hid hr8; have K8 := Lib.hid (K7.out.trans (hh8.below zz3 (fun k hk => (World.ownsRow.lt R7.out k hk).1))); have X8 := Lib.hid ((hh8.1.block _ (Array.getElem?_eq_some_iff.1 X7.out).1 (own_ne R7.out X7.out (by decide))).trans X7.out); clear hr8 hh8)
                    refine ⟨⟨i + 1, h1, rfl, by rw [HE.out]; exact R8.out, K8.out, X8.out⟩, less_next h1⟩
                · as_aux_lemma =>
                  have hie : i = y.methods.length := by omega
                  subst hie
                  rw [List.take_length] at hR0
                  obtain ⟨U5, hU5⟩ : ∃ z, z = U4 ++ y.methods.flatMap Li.method := ⟨_, rfl⟩
                  rw [← hU5] at hR0
                  have HU5 := Lib.hid hU5
                  have R5 := Lib.hid hR0
                  have K5 := Lib.hid hK0
                  have X5 := Lib.hid hX0
                  clear hU5 hR0 hK0 hX0
                  have HE := Lib.hid (show U5 = Li.cls y by rw [HU5.out, HU4.out, HU3.out, HU2.out, HL0.out]; unfold Li.cls; simp only [List.append_assoc, List.cons_append, List.nil_append]; rfl)
                  go_wp2_with fail
                  go_ret
                  exact ⟨_, rfl, by rw [← HE.out]; exact R5.out, K5.out⟩
end Go.Proofs.YtpjafbinlklojaaDoor

/- As XOrder, and an operation may be an append onto a fresh row, or a call of which a fact about what it returns is all that is known: whatever it comes to. No program. -/
namespace Go.Proofs.YtpjafbinlklojaaDoor.OrdC
open Go.RowKit

/-- What comes out: a block, a value, what the block holds; 'got': is there a block at all? -/
structure Out where
  B : Nat
  v : Value
  obj : Obj
  got : Bool := true

section
variable {fr : Oper → Nat} {Ψ : Oper → Out → Prop} {P : Program} {ops : Array Oper} {md : Region.Mode} {Q : Exit → Act → World → Prop} {w0 x y : World} {E F : Env}

def isApp (o : Oper) : Bool := match o.op with | .call c => (match c.callee with | .builtin .append => true | _ => false) | _ => false
/-- 1: an append; 2: a call that is told by a fact; 3: what asks nothing of the world, by its values; 0: all else. -/
def sp (fr : Oper → Nat) (o : Oper) : Nat := if isApp o then 1 else if fr o = 1 then 0 else fr o
/-- What an operation comes to: one value; a fresh block that holds this; a row of its own, new or the old one; or what a call returns. -/
inductive Kind where
  | val (v : Value)
  | blk (obj : Obj)
  | app
  | call
  | free (v : Value)
def Kind.res (o : Oper) (k : Kind) (ω : Out) : Value := match k with | .val v => v | .blk _ => blkVal o ω.B | .app => ω.v | .call => ω.v | .free v => v
def Kind.env (o : Oper) (k : Kind) (ω : Out) (E : Env) : Env := match k with | .val _ => E | .blk obj => E.upd o.dst ω.B obj | .app => E.upd o.dst ω.B ω.obj | .call => if ω.got then E.upd o.dst ω.B ω.obj else E | .free _ => E
def Fits (Ψ : Oper → Out → Prop) (P : Program) (w0 : World) (F : Env) (o : Oper) (a : Act) (k : Kind) (ω : Out) : Prop := match k with
  | .val _ => True
  | .blk _ => w0.heap.size ≤ ω.B
  | .app => w0.heap.size ≤ ω.B ∧ ω.v.ownBlock = some ω.B ∧ ∃ x y, Cl w0 F x ∧ (execOp a.eval o).run P x = .ok (.value ω.v) y ∧ y.heap[ω.B]? = some ω.obj
  | .call => Ψ o ω ∧ (ω.got = true → w0.heap.size ≤ ω.B)
  | .free _ => True

def Runs (fr : Oper → Nat) (Ψ : Oper → Out → Prop) (P : Program) (ops : Array Oper) (w0 : World) (F : Env) (o : Oper) (a : Act) : Kind → Prop
  | .val v => sp fr o = 0 ∧ ((Region.wanted o (yielded ops a.tmps) = true ∧ ∀ x, Cl w0 F x → o.quietAt P a (fun y => Below x.heap.size x y) x v) ∨ (Region.wanted o (yielded ops a.tmps) = false ∧ v = undef))
  | .blk obj => sp fr o = 0 ∧ Region.wanted o (yielded ops a.tmps) = true ∧ ∀ x, Cl w0 F x → (execOp a.eval o).run P x = .ok (.value (blkVal o x.heap.size)) (x.alloc obj)
  | .app => sp fr o = 1 ∧ Region.wanted o (yielded ops a.tmps) = true ∧ ∀ x, Cl w0 F x → ∃ v y B obj, (execOp a.eval o).run P x = .ok (.value v) y ∧ Below x.heap.size x y ∧ w0.heap.size ≤ B ∧ v.ownBlock = some B ∧ y.heap[B]? = some obj
  | .call => sp fr o = 2 ∧ Region.wanted o (yielded ops a.tmps) = true ∧ ∀ x, Cl w0 F x → ∃ f args, (execOp a.eval o).run P x = .ok (.enter f args) x ∧ Calls P f args x fun e y => ∃ ω : Out, e = .returned ω.v ∧ Below x.heap.size x y ∧ (ω.got = true → w0.heap.size ≤ ω.B ∧ y.heap[ω.B]? = some ω.obj) ∧ Ψ o ω
  | .free v => sp fr o = 3 ∧ Region.wanted o (yielded ops a.tmps) = true ∧ ∀ x, (execOp a.eval o).run P x = .ok (.value v) x

theorem Runs.det {o : Oper} {a : Act} : ∀ {k1 k2 : Kind}, Runs fr Ψ P ops w0 F o a k1 → Runs fr Ψ P ops w0 F o a k2 → Cl w0 F x → k1 = k2
  | .val v, .val u, h1, h2, hx => by
    rcases h1.2 with ⟨w1, h1⟩ | ⟨w1, h1⟩ <;> rcases h2.2 with ⟨w2, h2⟩ | ⟨w2, h2⟩
    · exact congrArg _ (quietUpon_det (h1 x hx) (h2 x hx))
    · rw [w1] at w2; cases w2
    · rw [w1] at w2; cases w2
    · rw [h1, h2]
  | .val v, .blk o2, h1, h2, hx => by
    rcases h1.2 with ⟨w1, h1⟩ | ⟨w1, h1⟩
    · have := h1 x hx
      unfold Oper.quietAt at this
      rw [h2.2.2 x hx] at this
      exact absurd this.1 (alloc_ne x o2)
    · have := h2.2.1; rw [w1] at this; cases this
  | .blk o1, .val u, h1, h2, hx => by
    rcases h2.2 with ⟨w2, h2⟩ | ⟨w2, h2⟩
    · have := h2 x hx
      unfold Oper.quietAt at this
      rw [h1.2.2 x hx] at this
      exact absurd this.1 (alloc_ne x o1)
    · have := h1.2.1; rw [w2] at this; cases this
  | .blk o1, .blk o2, h1, h2, hx => by
    have := (h1.2.2 x hx).symm.trans (h2.2.2 x hx)
    simp only [Result.ok.injEq] at this
    exact congrArg _ (alloc_inj this.2)
  | .app, .app, _, _, _ => rfl
  | .app, .val _, h1, h2, _ => by have := h1.1; rw [h2.1] at this; cases this
  | .app, .blk _, h1, h2, _ => by have := h1.1; rw [h2.1] at this; cases this
  | .val _, .app, h1, h2, _ => by have := h2.1; rw [h1.1] at this; cases this
  | .blk _, .app, h1, h2, _ => by have := h2.1; rw [h1.1] at this; cases this
  | .call, .call, _, _, _ => rfl
  | .free v, .free u, h1, h2, hx => by
    have := (h1.2.2 x).symm.trans (h2.2.2 x)
    simp only [Result.ok.injEq, Next.value.injEq] at this
    exact congrArg _ this.1
  | .free _, .val _, h1, h2, _ => by have := h1.1; rw [h2.1] at this; cases this
  | .free _, .blk _, h1, h2, _ => by have := h1.1; rw [h2.1] at this; cases this
  | .free _, .app, h1, h2, _ => by have := h1.1; rw [h2.1] at this; cases this
  | .free _, .call, h1, h2, _ => by have := h1.1; rw [h2.1] at this; cases this
  | .val _, .free _, h1, h2, _ => by have := h1.1; rw [h2.1] at this; cases this
  | .blk _, .free _, h1, h2, _ => by have := h1.1; rw [h2.1] at this; cases this
  | .app, .free _, h1, h2, _ => by have := h1.1; rw [h2.1] at this; cases this
  | .call, .free _, h1, h2, _ => by have := h1.1; rw [h2.1] at this; cases this
  | .call, .val _, h1, h2, _ => by have := h1.1; rw [h2.1] at this; cases this
  | .call, .blk _, h1, h2, _ => by have := h1.1; rw [h2.1] at this; cases this
  | .call, .app, h1, h2, _ => by have := h1.1; rw [h2.1] at this; cases this
  | .val _, .call, h1, h2, _ => by have := h1.1; rw [h2.1] at this; cases this
  | .blk _, .call, h1, h2, _ => by have := h1.1; rw [h2.1] at this; cases this
  | .app, .call, h1, h2, _ => by have := h1.1; rw [h2.1] at this; cases this

theorem Runs.put {o : Oper} {a : Act} {dst : Option Tmp} {u : Value} (hs : ∀ cs b, o.op ≠ .select cs b) (h : ∀ d, dst = some d → d ∉ o.looksAt ops) (k : Kind) : Runs fr Ψ P ops w0 F o (a.put dst u) k ↔ Runs fr Ψ P ops w0 F o a k := by
  cases k <;> simp only [Runs, Oper.quietAt, execOp_put o hs a dst u h, wanted_put o a dst u h]
theorem Fits.put {o : Oper} {a : Act} {dst : Option Tmp} {u : Value} (hs : ∀ cs b, o.op ≠ .select cs b) (h : ∀ d, dst = some d → d ∉ o.looksAt ops) (k : Kind) (ω : Out) : Fits Ψ P w0 F o (a.put dst u) k ω ↔ Fits Ψ P w0 F o a k ω := by
  cases k <;> simp only [Fits, execOp_put o hs a dst u h]
theorem Env.only_upd {o1 : Option Nat} {oj : Oper} (B : Nat) (obj : Obj) (h : ∀ d, o1 = some d → d ∉ oj.looksAt ops) : (E.upd o1 B obj).only ops oj = E.only ops oj := by
  funext s C u
  apply propext
  exact ⟨fun ⟨h1, h2⟩ => ⟨h1, h2.resolve_right fun h3 => h s h3.1 (by simpa using h1)⟩, fun ⟨h1, h2⟩ => ⟨h1, .inl h2⟩⟩
theorem Env.only_env {oi oj : Oper} (k : Kind) (ω : Out) (h : ∀ d, oi.dst = some d → d ∉ oj.looksAt ops) : (k.env oi ω E).only ops oj = E.only ops oj := by
  cases k with
  | val v => rfl
  | blk obj => exact Env.only_upd ω.B obj h
  | app => exact Env.only_upd ω.B ω.obj h
  | call =>
    show (if ω.got then E.upd oi.dst ω.B ω.obj else E).only ops oj = E.only ops oj
    split
    · exact Env.only_upd ω.B ω.obj h
    · rfl
  | free v => rfl
theorem upd_comm {d1 d2 : Option Nat} {B1 B2 : Nat} {o1 o2 : Obj} : (E.upd d1 B1 o1).upd d2 B2 o2 = (E.upd d2 B2 o2).upd d1 B1 o1 := by
  funext s C u
  apply propext
  exact ⟨fun h => by rcases h with (h | h) | h <;> simp [Env.upd, h], fun h => by rcases h with (h | h) | h <;> simp [Env.upd, h]⟩
theorem Kind.env_comm {oi oj : Oper} (ki kj : Kind) (ωi ωj : Out) : ki.env oi ωi (kj.env oj ωj E) = kj.env oj ωj (ki.env oi ωi E) := by
  cases ki <;> cases kj <;> simp only [Kind.env] <;> (repeat' split) <;> first | rfl | exact upd_comm
theorem Kind.env_le (o : Oper) (k : Kind) (ω : Out) (s C : Nat) (u : Obj) (h : E s C u) : k.env o ω E s C u := by
  cases k with
  | val _ => exact h
  | blk _ => exact .inl h
  | app => exact .inl h
  | call =>
    show (if ω.got then E.upd o.dst ω.B ω.obj else E) s C u
    split
    · exact .inl h
    · exact h
  | free _ => exact h
theorem cl_app (h : Cl w0 E x) (k : Below x.heap.size x y) {B : Nat} {obj : Obj} (hB : w0.heap.size ≤ B) (hy : y.heap[B]? = some obj) (d : Option Nat) : Cl w0 (E.upd d B obj) y := by
  have hg := h.grow k
  refine ⟨hg.below, fun s C o e => ?_⟩
  rcases e with e | ⟨_, rfl, rfl⟩
  · exact hg.fact s C o e
  · exact ⟨hB, hy⟩
theorem cl_call (h : Cl w0 E x) (k : Below x.heap.size x y) {ω : Out} (hg : ω.got = true → w0.heap.size ≤ ω.B ∧ y.heap[ω.B]? = some ω.obj) (d : Option Nat) : Cl w0 (if ω.got then E.upd d ω.B ω.obj else E) y := by
  split
  · rename_i e
    exact cl_app h k (hg e).1 (hg e).2 d
  · exact h.grow k
/-- It comes to something. -/
theorem Runs.out {o : Oper} {a : Act} {k : Kind} (h : Runs fr Ψ P ops w0 (E.only ops o) o a k) (hx : Cl w0 E x) : ∃ ω w', Fits Ψ P w0 (E.only ops o) o a k ω ∧ Cl w0 (k.env o ω E) w' := by
  cases k with
  | val v => exact ⟨⟨0, v, .map #[] 0, true⟩, x, trivial, hx⟩
  | blk obj => exact ⟨⟨x.heap.size, undef, obj, true⟩, _, hx.below.size, hx.upd o.dst obj⟩
  | app =>
    obtain ⟨v, y, B, obj, h1, h2, h3, h4, h5⟩ := h.2.2 x (hx.only o)
    exact ⟨⟨B, v, obj, true⟩, y, ⟨h3, h4, x, y, hx.only o, h1, h5⟩, cl_app hx h2 h3 h5 o.dst⟩
  | call =>
    obtain ⟨f, args, _, hc⟩ := h.2.2 x (hx.only o)
    obtain ⟨e, y, _, ⟨ω, _, hb, hg, hψ⟩, _⟩ := hc []
    exact ⟨ω, y, ⟨hψ, fun e => (hg e).1⟩, cl_call hx hb hg o.dst⟩
  | free v => exact ⟨⟨0, v, .map #[] 0, true⟩, x, trivial, hx⟩

theorem Runs.wpOp {i : Nat} {o : Oper} {a : Act} {k : Kind} (hi : ops[i]? = some o) (h : Runs fr Ψ P ops w0 (E.only ops o) o a k) (hx : Cl w0 E x) {K : Act → World → Prop}
    (hK : ∀ ω y, Fits Ψ P w0 (E.only ops o) o a k ω → Cl w0 (k.env o ω E) y → K (a.put o.dst (k.res o ω)) y) : Go.wpOp P ops Q i K a x := by
  unfold Go.wpOp
  simp only [hi]
  cases k with
  | val v =>
    have hK' := fun y hy => hK ⟨0, v, .map #[] 0, true⟩ y trivial hy
    rcases h.2 with ⟨hw, hv⟩ | ⟨hw, rfl⟩
    · rw [if_pos hw]
      refine .inl ?_
      have h3 := hv x (hx.only o)
      unfold Oper.quietAt at h3
      unfold Oper.wp
      generalize (execOp a.eval o).run P x = r at *
      cases r with
      | ok n w' =>
        cases n <;> simp only [Oper.quietUpon] at h3 <;> simp only [Oper.upon]
        case value u => obtain ⟨rfl, rfl⟩ := h3; exact hK' _ hx
        case skip => obtain ⟨rfl, rfl⟩ := h3; exact hK' _ hx
        case enter f args =>
          obtain ⟨rfl, hc⟩ := h3
          exact hc.mono fun e w'' ⟨he, hw''⟩ => by subst he; exact hK' _ (hx.grow hw'')
      | halt => simp only [Oper.quietUpon] at h3
    · rw [if_neg (by rw [hw]; decide)]
      exact hK' x hx
  | blk obj =>
    rw [if_pos h.2.1]
    refine .inl ?_
    unfold Oper.wp
    rw [h.2.2 x (hx.only o)]
    exact hK ⟨x.heap.size, undef, obj, true⟩ _ hx.below.size (hx.upd o.dst obj)
  | app =>
    rw [if_pos h.2.1]
    refine .inl ?_
    obtain ⟨v, y, B, obj, h1, h2, h3, h4, h5⟩ := h.2.2 x (hx.only o)
    unfold Oper.wp
    rw [h1]
    exact hK ⟨B, v, obj, true⟩ y ⟨h3, h4, x, y, hx.only o, h1, h5⟩ (cl_app hx h2 h3 h5 o.dst)
  | call =>
    rw [if_pos h.2.1]
    refine .inl ?_
    obtain ⟨f, args, h1, hc⟩ := h.2.2 x (hx.only o)
    unfold Oper.wp
    rw [h1]
    simp only [Oper.upon]
    exact hc.mono fun e w'' ⟨ω, he, hb, hg, hψ⟩ => by
      subst he
      exact hK ω w'' ⟨hψ, fun e => (hg e).1⟩ (cl_call hx hb hg o.dst)
  | free v =>
    rw [if_pos h.2.1]
    refine .inl ?_
    unfold Oper.wp
    rw [h.2.2 x]
    exact hK ⟨0, v, .map #[] 0, true⟩ x trivial hx

/-- What may come behind an operation of the tail: it asks nothing of the world. -/
def lateF (fr : Oper → Nat) (o : Oper) : Bool := lateB o || sp fr o == 3
theorem late_yields {o : Oper} {a : Act} {k : Kind} (h : lateF fr o = true) (hr : Runs fr Ψ P ops w0 F o a k) (hx : Cl w0 F x) :
    ∃ v, (∀ ω E, k.env o ω E = E) ∧ (∀ ω, k.res o ω = v) ∧ (∀ ω, Fits Ψ P w0 F o a k ω) ∧ Yields P ops o v a := by
  have hB : ∀ n, n ≠ 3 → sp fr o = n → lateB o = true := fun n hn hs => by
    unfold lateF at h
    rw [hs, Bool.or_eq_true] at h
    rcases h with h | h
    · exact h
    · exact absurd (by simpa using h) hn
  cases k with
  | val v =>
    have h := hB 0 (by decide) hr.1
    refine ⟨v, fun _ _ => rfl, fun _ => rfl, fun _ => trivial, ?_⟩
    rcases hr.2 with ⟨hw, hv⟩ | hr
    · refine .inl ⟨hw, ?_⟩
      have := hv x hx
      unfold Oper.quietAt at this
      rcases late_run (P := P) o h a.eval with ⟨u, hu⟩ | hu
      · rw [hu x] at this
        simp only [Oper.quietUpon] at this
        rw [← this.2]
        exact hu
      · obtain ⟨hh, e⟩ := hu x
        rw [e] at this
        simp only [Oper.quietUpon] at this
    · exact .inr hr
  | blk obj =>
    have h := hB 0 (by decide) hr.1
    have := hr.2.2 x hx
    rcases late_run (P := P) o h a.eval with ⟨u, hu⟩ | hu
    · rw [hu x] at this
      simp only [Result.ok.injEq] at this
      exact absurd this.2.symm (alloc_ne x obj)
    · obtain ⟨hh, e⟩ := hu x
      rw [e] at this
      cases this
  | app =>
    have h := hB 1 (by decide) hr.1
    exfalso
    have h1 := hr.1
    have h2 : isApp o = true := by
      apply Classical.byContradiction
      intro hn
      unfold lateB at h
      unfold sp at h1
      rw [if_neg hn] at h1
      split at h1
      · cases h1
      · rename_i h3; exact h3 h1
    unfold lateB at h
    unfold isApp at h2
    split at h
    · rename_i ho; rw [ho] at h2; cases h2
    · rename_i ho; rw [ho] at h2; cases h2
    · cases h
  | call =>
    have h := hB 2 (by decide) hr.1
    obtain ⟨f, args, h1, _⟩ := hr.2.2 x hx
    rcases late_run (P := P) o h a.eval with ⟨u, hu⟩ | hu
    · rw [hu x] at h1; simp at h1
    · obtain ⟨hh, e⟩ := hu x
      rw [e] at h1
      cases h1
  | free v => exact ⟨v, fun _ _ => rfl, fun _ => rfl, fun _ => trivial, .inl ⟨hr.2.1, hr.2.2⟩⟩

def ordLate (fr : Oper → Nat) (md : Region.Mode) (ops : Array Oper) (n : Nat) : Bool :=
  (List.range n).all fun i => (match ops[i]? with | some oi => lateF fr oi | none => false) || (List.range ops.size).all fun t => decide (t < n) || waitsT md ops 5 t i
def ordB (fr : Oper → Nat) (md : Region.Mode) (ops : Array Oper) (n : Nat) : Bool :=
  Region.noSelect ops && decide (n ≤ ops.size) && ordLate fr md ops n && ordHead md ops (ops.size - n) n 0 (Array.replicate ops.size false)
theorem ordLate_spec {md : Region.Mode} {n : Nat} (h : ordLate fr md ops n = true) {i : Nat} (hi : i < n) {oi : Oper} (hoi : ops[i]? = some oi) (t : Nat) (ot : Oper) (ht : n ≤ t) (hot : ops[t]? = some ot) :
    (∃ f, waitsT md ops f t i = true) ∨ lateF fr oi = true := by
  have h1 := List.all_eq_true.1 h i (List.mem_range.2 hi)
  simp only [hoi, Bool.or_eq_true] at h1
  rcases h1 with h1 | h1
  · exact .inr h1
  · have h2 := List.all_eq_true.1 h1 t (List.mem_range.2 (Array.getElem?_eq_some_iff.1 hot).1)
    simp only [Bool.or_eq_true, decide_eq_true_eq] at h2
    rcases h2 with h2 | h2
    · omega
    · exact .inl ⟨5, h2⟩

/-- Whatever order is picked while operations of the head (the first n) are to come; 'g': how many there are behind the head. -/
def AO (fr : Oper → Nat) (Ψ : Oper → Out → Prop) (P : Program) (md : Region.Mode) (ops : Array Oper) (Q : Exit → Act → World → Prop) (w0 : World) (n g : Nat) : Nat → Array Bool → Env → Act → Prop
  | 0, listed, E, a => ∀ w, Cl w0 E w → (∀ j ∈ Region.ready md ops listed, n ≤ j) ∧ wpAny P md ops Q g listed a w
  | f + 1, listed, E, a => ∀ w, Cl w0 E w → Region.ready md ops listed ≠ [] ∧
      (∀ j ∈ Region.ready md ops listed, j < n → ∃ o k, ops[j]? = some o ∧ Runs fr Ψ P ops w0 (E.only ops o) o a k ∧
        ∀ ω, Fits Ψ P w0 (E.only ops o) o a k ω → AO fr Ψ P md ops Q w0 n g f (listed.setIfInBounds j true) (k.env o ω E) (a.put o.dst (k.res o ω))) ∧
      ((∃ j ∈ Region.ready md ops listed, n ≤ j) → wpAny P md ops Q (f + 1 + g) listed a w)

theorem AO.any {n g : Nat} : ∀ (f : Nat) (listed : Array Bool) (E : Env) (a : Act) (w : World), AO fr Ψ P md ops Q w0 n g f listed E a → Cl w0 E w → wpAny P md ops Q (f + g) listed a w
  | 0, listed, E, a, w, h, hw => by rw [Nat.zero_add]; exact (h w hw).2
  | f + 1, listed, E, a, w, h, hw => by
    obtain ⟨hne, hA, hB⟩ := h w hw
    by_cases ht : ∃ j ∈ Region.ready md ops listed, n ≤ j
    · exact hB ht
    · have e : f + 1 + g = (f + g) + 1 := by omega
      rw [e]
      refine ⟨fun h0 => absurd h0 hne, fun j hj => ?_⟩
      have hjn : j < n := Nat.lt_of_not_le fun hh => ht ⟨j, hj, hh⟩
      obtain ⟨o, k, ho, hr, hk⟩ := hA j hj hjn
      exact hr.wpOp ho hw fun ω y hω hy => AO.any f _ _ _ y (hk ω hω) hy

/-- An operation of the head that may come up may be taken first. -/
theorem AO.first {n g i : Nat} {oi : Oper} {ki : Kind} (hi : ops[i]? = some oi) (hin : i < n) (hsel : ∀ (j : Nat) (o : Oper) cs b, ops[j]? = some o → o.op ≠ .select cs b)
    (hQ : ∀ c a v w, Q (.panic c) (a.put oi.dst v) w → Q (.panic c) a w)
    (hlate : ∀ (t : Nat) (ot : Oper), n ≤ t → ops[t]? = some ot → (∃ f, waitsT md ops f t i = true) ∨ lateF fr oi = true) (f : Nat) :
    ∀ (listed : Array Bool) (E : Env) (a : Act), Closed md ops listed →
      (∀ j oj, ops[j]? = some oj → j ≠ i → listed.getD j true = false → (∀ e ∈ oj.after, Region.binds md e = true → e.on ≠ i) → oi.apart ops oj = true) →
      i ∈ Region.ready md ops listed → Runs fr Ψ P ops w0 (E.only ops oi) oi a ki →
      (∀ ω, Fits Ψ P w0 (E.only ops oi) oi a ki ω → AO fr Ψ P md ops Q w0 n g f (listed.setIfInBounds i true) (ki.env oi ω E) (a.put oi.dst (ki.res oi ω))) → AO fr Ψ P md ops Q w0 n g (f + 1) listed E a := by
  -- at a tail's operation that comes up while this one is to come: this one asks nothing of the world
  have tail : ∀ (f : Nat) (listed : Array Bool) (E : Env) (a : Act) (w : World), Closed md ops listed → Cl w0 E w →
      (∀ j oj, ops[j]? = some oj → j ≠ i → listed.getD j true = false → (∀ e ∈ oj.after, Region.binds md e = true → e.on ≠ i) → oi.apart ops oj = true) →
      i ∈ Region.ready md ops listed → Runs fr Ψ P ops w0 (E.only ops oi) oi a ki →
      (∀ ω, Fits Ψ P w0 (E.only ops oi) oi a ki ω → AO fr Ψ P md ops Q w0 n g f (listed.setIfInBounds i true) (ki.env oi ω E) (a.put oi.dst (ki.res oi ω))) →
      (∃ j ∈ Region.ready md ops listed, n ≤ j) → wpAny P md ops Q (f + 1 + g) listed a w := by
    intro f listed E a w hcl hw hfree hr hy H ht
    obtain ⟨t, htr, htn⟩ := ht
    obtain ⟨_, ot, hot, hall⟩ := mem_ready.1 htr
    have hla : lateF fr oi = true := by
      rcases hlate t ot htn hot with ⟨f, hf⟩ | h
      · have h1 := waitsT_listed hcl f t hf fun ot' hot' => by
          rw [hot] at hot'; cases hot'; exact hall
        rw [getD_both (mem_ready.1 hr).1] at h1
        cases h1
      · exact h
    obtain ⟨v, henv, hres, hfit, hyl⟩ := late_yields hla hy (hw.only oi)
    have h0 := H ⟨0, v, .map #[] 0, true⟩ (hfit _)
    rw [henv, hres] at h0
    have h1 := AO.any f _ _ _ w h0 hw
    have e : f + 1 + g = (f + g) + 1 := by omega
    rw [e]
    exact wpAny_first hi hsel (fun c a w => hQ c a v w) (f + g) listed a w hfree hr hyl h1
  induction f with
  | zero =>
    intro listed E a hcl hfree hr hy H w hw
    refine ⟨fun h => (by rw [h] at hr; cases hr), fun j hj hjn => ?_, tail 0 listed E a w hcl hw hfree hr hy H⟩
    by_cases hji : j = i
    · subst hji
      exact ⟨oi, ki, hi, hy, H⟩
    · -- no other operation of the head is left
      exfalso
      have hx := hy.out hw
      obtain ⟨ω, w', hω, hw'⟩ := hx
      have := (H ω hω w' hw').1 j (ready_mono hj hji)
      omega
  | succ f ih =>
    intro listed E a hcl0 hfree hr hy H w hw
    refine ⟨fun h => (by rw [h] at hr; cases hr), fun j hj hjn => ?_, tail (f + 1) listed E a w hcl0 hw hfree hr hy H⟩
    by_cases hji : j = i
    · subst hji
      exact ⟨oi, ki, hi, hy, H⟩
    · have hx := hy.out hw
      obtain ⟨ω0, w1, hω0, hw1⟩ := hx
      obtain ⟨hjun, oj, hoj, hall⟩ := mem_ready.1 hj
      have hap : oi.apart ops oj = true := hfree j oj hoj hji hjun fun e he hb heq => by
        have h1 := hall e he hb
        rw [heq, getD_both (mem_ready.1 hr).1] at h1
        cases h1
      obtain ⟨ap1, ap2, ap3⟩ := Oper.apart_spec hap
      have hj' := ready_mono hj hji
      obtain ⟨oj', kj, hoj', hrj, _⟩ := (H ω0 hω0 w1 hw1).2.1 j hj' hjn
      rw [hoj] at hoj'
      cases hoj'
      rw [Env.only_env ki ω0 ap1, Runs.put (hsel j oj · · hoj) ap1] at hrj
      refine ⟨oj, kj, hoj, hrj, fun ωj hωj => ?_⟩
      refine ih (listed.setIfInBounds j true) (kj.env oj ωj E) (a.put oj.dst (kj.res oj ωj)) (hcl0.set hj) (fun k ok hk hki hkun hno => ?_) (ready_mono hr (Ne.symm hji)) ?_ fun ωi hωi => ?_
      · refine hfree k ok hk hki ?_ hno
        by_cases hjk : j = k
        · subst hjk
          exact hjun
        · rwa [getD_set_ne true hjk] at hkun
      · rw [Env.only_env kj ωj ap3, Runs.put (hsel i oi · · hi) ap3]
        exact hy
      · -- from what is known behind 'i', at any world of the class
        rw [Env.only_env kj ωj ap3, Fits.put (hsel i oi · · hi) ap3] at hωi
        have big : ∀ w', Cl w0 (ki.env oi ωi E) w' → AO fr Ψ P md ops Q w0 n g f ((listed.setIfInBounds i true).setIfInBounds j true) (kj.env oj ωj (ki.env oi ωi E)) ((a.put oi.dst (ki.res oi ωi)).put oj.dst (kj.res oj ωj)) := by
          intro w' hw'
          obtain ⟨oj', kj', hoj', hrj', hk'⟩ := (H ωi hωi w' hw').2.1 j hj' hjn
          rw [hoj] at hoj'
          cases hoj'
          rw [Env.only_env ki ωi ap1, Runs.put (hsel j oj · · hoj) ap1] at hrj'
          have hcl : Cl w0 (E.only ops oj) w' := by
            have := hw'.only (ops := ops) oj
            rwa [Env.only_env ki ωi ap1] at this
          have hkk : kj' = kj := Runs.det hrj' hrj hcl
          subst hkk
          exact hk' ωj (by rw [Env.only_env ki ωi ap1, Fits.put (hsel j oj · · hoj) ap1]; exact hωj)
        have conv : AO fr Ψ P md ops Q w0 n g f ((listed.setIfInBounds j true).setIfInBounds i true) (ki.env oi ωi (kj.env oj ωj E)) ((a.put oj.dst (kj.res oj ωj)).put oi.dst (ki.res oi ωi)) ↔
            AO fr Ψ P md ops Q w0 n g f ((listed.setIfInBounds i true).setIfInBounds j true) (kj.env oj ωj (ki.env oi ωi E)) ((a.put oi.dst (ki.res oi ωi)).put oj.dst (kj.res oj ωj)) := by
          rw [Kind.env_comm ki kj ωi ωj, Array.setIfInBounds_comm _ _ (fun e => hji e), ← Act.put_comm a _ _ ap2]
        rw [conv]
        -- the statement asks for every world of the class: take that world
        have sub : ∀ w', Cl w0 (kj.env oj ωj (ki.env oi ωi E)) w' → Cl w0 (ki.env oi ωi E) w' := fun w' hw' => hw'.sub fun s C u hs => Kind.env_le oj kj ωj s C u hs
        cases f with
        | zero => exact fun w' hw' => big w' (sub w' hw') w' hw'
        | succ f => exact fun w' hw' => big w' (sub w' hw') w' hw'

def wpLex (fr : Oper → Nat) (Ψ : Oper → Out → Prop) (P : Program) (ops : Array Oper) (Q : Exit → Act → World → Prop) (w0 : World) (tail : List Oper) : List Oper → Env → Act → Prop
  | [], E, a => ∀ x, Cl w0 E x → wpList P ops Q tail a x
  | o :: rest, E, a => (∃ x, Cl w0 E x) → ∃ k, Runs fr Ψ P ops w0 (E.only ops o) o a k ∧ ∀ ω, Fits Ψ P w0 (E.only ops o) o a k ω → wpLex fr Ψ P ops Q w0 tail rest (k.env o ω E) (a.put o.dst (k.res o ω))

theorem AO.lex {n g : Nat} {tail : List Oper} (hsel : Region.noSelect ops = true) (hQ : ∀ c a d v w, Q (.panic c) (a.put d v) w → Q (.panic c) a w) (hl : ordLate fr md ops n = true) (htail : ∀ j, tail[j]? = ops[n + j]?) (hg : tail.length = g) :
    ∀ (l : List Oper) (k : Nat) (listed : Array Bool) (E : Env) (a : Act), Closed md ops listed → (∀ j, j < l.length → l[j]? = ops[k + j]?) → k + l.length = n → ordHead md ops g l.length k listed = true →
    wpLex fr Ψ P ops Q w0 tail l E a → AO fr Ψ P md ops Q w0 n g l.length listed E a
  | [], k, listed, E, a, _, _, hk, hB, h => by
    have hkn : k = n := by simpa using hk
    subst hkn
    simp only [List.length_nil, ordHead, Bool.and_eq_true] at hB
    refine fun w hw => ⟨fun j hj => by simpa using List.all_eq_true.1 hB.2 j hj, ?_⟩
    subst hg
    exact wpAny_of_seq tail k listed a w htail hB.1 (h w hw)
  | o :: l, k, listed, E, a, hcl, hll, hk, hB, h => by
    simp only [List.length_cons] at hk
    simp only [List.length_cons, ordHead, Bool.and_eq_true] at hB
    have h0 : ops[k]? = some o := by simpa using (hll 0 (by simp)).symm
    by_cases hne : ∃ x, Cl w0 E x
    · obtain ⟨kd, hr, hrest⟩ := h hne
      refine AO.first h0 (by omega) (Region.noSelect_spec hsel) (fun c a v w => hQ c a o.dst v w) (fun t ot ht hot => ordLate_spec hl (by omega) h0 t ot ht hot) l.length listed E a hcl (Region.free_spec h0 hB.1.2) (by simpa using hB.1.1) hr fun ω hω => ?_
      exact AO.lex hsel hQ hl htail hg l (k + 1) _ _ _ (hcl.set (by simpa using hB.1.1)) (fun j hj => by have := hll (j + 1) (by simp; omega); simpa [Nat.add_assoc, Nat.add_comm 1 j] using this) (by omega) hB.2 (hrest ω hω)
    · exact fun w hw => absurd ⟨w, hw⟩ hne

theorem wp_region_ord {id : Nat} {a : Act} {w : World} {l : List Oper} (n : Nat) (hm : P.follows .mixedOrders = true) (hB : ordB fr .any l.toArray n = true)
    (hQ : ∀ c a d v w, Q (.panic c) (a.put d v) w → Q (.panic c) a w)
    (h : wpLex fr Ψ P l.toArray Q w.drew (l.drop n) (l.take n) Env.none a) : (Code.region id l.toArray true).wp P Q a w := by
  simp only [ordB, Bool.and_eq_true, decide_eq_true_eq] at hB
  obtain ⟨⟨⟨hsel, hn⟩, hl⟩, hh⟩ := hB
  have hn' : n ≤ l.length := by simpa using hn
  have htl : (l.take n).length = n := by simp; omega
  have hdl : (l.drop n).length = l.toArray.size - n := by simp
  have H := AO.lex (md := .any) (g := l.toArray.size - n) hsel hQ hl (fun j => by simp [List.getElem?_drop]) hdl (l.take n) 0 _ Env.none a (Closed.none _) (fun j hj => by
    have hj' : j < n := by rw [htl] at hj; exact hj
    simp [hj']) (by simpa using htl) (by rw [htl]; exact hh) h
  refine wp_region_any hm ?_
  have := AO.any _ _ _ _ w.drew H ⟨Below.refl _ _, fun s B o e => e.elim⟩
  rw [htl, show n + (l.toArray.size - n) = l.toArray.size by omega] at this
  exact this

/-! ### The moves of a walk -/
variable {tail rest : List Oper} {o : Oper} {a : Act}
theorem wpLex_nil (h : ∀ x, Cl w0 E x → wpList P ops Q tail a x) : wpLex fr Ψ P ops Q w0 tail [] E a := h
theorem wpLex_skip (hna : sp fr o = 0) (hw : Region.wanted o (yielded ops a.tmps) = false) (h : wpLex fr Ψ P ops Q w0 tail rest E (a.put o.dst undef)) : wpLex fr Ψ P ops Q w0 tail (o :: rest) E a :=
  fun _ => ⟨.val undef, ⟨hna, .inr ⟨hw, rfl⟩⟩, fun _ _ => h⟩
theorem wpLex_fix (hna : sp fr o = 0) (hw : Region.wanted o (yielded ops a.tmps) = true)
    (h : ∀ F : Env, Hid (∀ s B u, (o.looksAt ops).contains s = true → E s B u → F s B u) → ∀ R, GrowsUp R → Nonempty (GrE w0 F R) → ∀ K : Act → Prop, (∀ a', wpLex fr Ψ P ops Q w0 tail rest E a' → K a') → o.quiet P a (fun x => ∃ g : GrE w0 F R, x = g.1) K) :
    wpLex fr Ψ P ops Q w0 tail (o :: rest) E a := by
  rintro ⟨x0, hx0⟩
  replace h := h (E.only ops o) (fun s B u h1 h2 => ⟨h1, h2⟩)
  obtain ⟨v, hv, hk⟩ := h (fun _ => True) (fun _ _ _ _ => trivial) ⟨⟨x0, hx0.only o, trivial⟩⟩ (wpLex fr Ψ P ops Q w0 tail rest E) (fun _ h => h)
  refine ⟨.val v, ⟨hna, .inl ⟨hw, fun x hx => ?_⟩⟩, fun _ _ => hk⟩
  have h1 := hv x ⟨⟨x, hx, trivial⟩, rfl⟩
  obtain ⟨u, hu, _⟩ := h (fun y => Below x.heap.size x y) (fun y z hy hz => hy.trans (hz.mono hy.size)) ⟨⟨x, hx, Below.refl _ _⟩⟩ (fun _ => True) (fun _ _ => trivial)
  have h2 := hu x ⟨⟨x, hx, Below.refl _ _⟩, rfl⟩
  have : v = u := quietUpon_det h1 h2
  subst this
  exact quietUpon_mono (fun y ⟨g, hg⟩ => hg ▸ g.2.2) h2
theorem wpLex_blk (hna : sp fr o = 0) (hw : Region.wanted o (yielded ops a.tmps) = true) (obj : Obj) (hrun : ∀ x, Cl w0 (E.only ops o) x → (execOp a.eval o).run P x = .ok (.value (blkVal o x.heap.size)) (x.alloc obj))
    (h : ∀ B, w0.heap.size ≤ B → wpLex fr Ψ P ops Q w0 tail rest (E.upd o.dst B obj) (a.put o.dst (blkVal o B))) : wpLex fr Ψ P ops Q w0 tail (o :: rest) E a :=
  fun _ => ⟨.blk obj, ⟨hna, hw, hrun⟩, fun ω hω => h ω.B hω⟩
/-- A call: whatever it returns, a fact about it is known. -/
theorem wpLex_call (hs : sp fr o = 2) (hgd : o.guard = none) (f : FuncId) (args : Array Value) (hrun : ∀ x, Cl w0 (E.only ops o) x → (execOp a.eval o).run P x = .ok (.enter f args) x)
    (hc : ∀ x, Cl w0 (E.only ops o) x → Calls P f args x fun e y => ∃ ω : Out, e = .returned ω.v ∧ Below x.heap.size x y ∧ (ω.got = true → w0.heap.size ≤ ω.B ∧ y.heap[ω.B]? = some ω.obj) ∧ Ψ o ω)
    (h : ∀ ω : Out, Ψ o ω → (ω.got = true → w0.heap.size ≤ ω.B) → wpLex fr Ψ P ops Q w0 tail rest (if ω.got then E.upd o.dst ω.B ω.obj else E) (a.put o.dst ω.v)) : wpLex fr Ψ P ops Q w0 tail (o :: rest) E a :=
  fun _ => ⟨.call, ⟨hs, by simp [Region.wanted, hgd], fun x hx => ⟨f, args, hrun x hx, hc x hx⟩⟩, fun ω hω => h ω hω.1 hω.2⟩
/-- What asks nothing of the world, by its values. -/
theorem wpLex_free (hs : sp fr o = 3) (hgd : o.guard = none) (v : Value) (hrun : ∀ x, (execOp a.eval o).run P x = .ok (.value v) x) (h : wpLex fr Ψ P ops Q w0 tail rest E (a.put o.dst v)) : wpLex fr Ψ P ops Q w0 tail (o :: rest) E a :=
  fun _ => ⟨.free v, ⟨hs, by simp [Region.wanted, hgd], hrun⟩, fun _ _ => h⟩
/-- An append onto a row of one place that is full: whatever row comes out. -/
theorem wpLex_app (hgd : o.guard = none) (s x : Operand) (t tx : TypeId) (ho : o.op = .call { callee := .builtin .append, args := #[s, x], argTypes := #[t, tx] })
    (base : Nat) (e : TypeId) (i : TypeInfo) (z : Value) (bytes : Nat) (ht : P.underlying t = some (.slice e)) (hi : P.info? e = some i) (hz : i.zero = some z) (hsize : i.size = 1) (hby : i.bytes = bytes) (hzs : z.cells.size = 1)
    (B0 : Nat) (u : Value) (hv : a.eval s = .slice (some ⟨B0, 0, none⟩) 1 1) (hB0 : w0.heap.size ≤ B0) (hbase : base ≤ w0.heap.size) (hlit : ∀ x, Cl w0 (E.only ops o) x → x.heap[B0]? = some (.cells #[u] e (0, 0)))
    (X : Value) (m : Nat) (news : List Value) (hX : a.eval x = X) (hs : ∀ x, Cl w0 (E.only ops o) x → Src P 1 tx X m news x) (h63 : 1 + m ≤ maxLen) (hbytes : (1 + m) * bytes ≤ 140737488355328)
    (h : ∀ g cap obj, w0.heap.size ≤ g → (∀ y : World, y.heap[g]? = some obj → y.ownsRow base e 1 (.slice (some ⟨g, 0, none⟩) (1 + m) cap) (1 + m) (u :: news)) → wpLex fr Ψ P ops Q w0 tail rest (E.upd o.dst g obj) (a.put o.dst (.slice (some ⟨g, 0, none⟩) (1 + m) cap))) :
    wpLex fr Ψ P ops Q w0 tail (o :: rest) E a := by
  subst hby
  have hw : Region.wanted o (yielded ops a.tmps) = true := by simp [Region.wanted, hgd]
  have hap : sp fr o = 1 := by unfold sp isApp; rw [ho]; rfl
  have hrun : ∀ x, Cl w0 (E.only ops o) x → ∃ g cap obj w', (execOp a.eval o).run P x = .ok (.value (.slice (some ⟨g, 0, none⟩) (1 + m) cap)) w' ∧ Below x.heap.size x w' ∧ w0.heap.size ≤ g ∧ w'.heap[g]? = some obj ∧
      (∀ y : World, y.heap[g]? = some obj → y.ownsRow base e 1 (.slice (some ⟨g, 0, none⟩) (1 + m) cap) (1 + m) (u :: news)) := by
    intro y hy
    have hl := hlit y hy
    have hy0 := hy.below.size
    have hS := hs y hy
    by_cases hm : m = 0
    · subst hm
      have hn : news = [] := List.eq_nil_of_length_eq_zero (by simpa using hS.newsLen)
      subst hn
      refine ⟨B0, 1, _, y, ?_, Below.refl _ _, hB0, hl, fun y' hy' => ⟨rfl, .inr ⟨B0, 1, #[u], rfl, by omega, hy', Nat.le_refl _, by unfold maxLen; omega, rfl, rfl⟩⟩⟩
      have hr := run_append_nothing (P := P) y t tx o.type e i ht hi (some ⟨B0, 0, none⟩) 1 1 (Nat.le_refl _) X (hsize ▸ hS)
      unfold execOp
      simp only [ho, resolve, invoke, builtin, Sem.run_bind, Sem.run_pure, Result.andThen_ok, List.map_toArray, List.map_cons, List.map_nil, hv, hX, hr]
    · have hold : (Builtin.firstCells i.size 1 (.slice (some ⟨B0, 0, none⟩) 1 1)).run P y.drew = .ok [u].toArray y.drew := by
        refine run_firstCells_some (P := P) y.drew i.size 1 ⟨B0, 0, none⟩ 1 1 [u] (by rw [hsize]; rfl) fun j v hj => ?_
        have hj0 : j = 0 := by
          have := (List.getElem?_eq_some_iff.1 hj).1
          simp at this; exact this
        subst hj0
        simp at hj
        subst hj
        have := cell_of_row y B0 0 #[u] e (0, 0) hl
        simpa [Addr.add] using this
      have hr := run_append_grow_src (P := P) y t tx o.type e i z ht hi hz (some ⟨B0, 0, none⟩) 1 1 [u] hold X m news (hsize ▸ hS) (by omega) (by unfold maxLen at h63; omega) (growslice_fits (by omega) hbytes)
      have hex : (execOp a.eval o).run P y = .ok (.value (.slice (some ⟨y.heap.size, 0, none⟩) (1 + m) (grownCap y (1 + m) 1 e))) (y.drew.alloc (.cells (([u] ++ news).toArray ++ Builtin.zeroCells z.cells (grownCap y (1 + m) 1 e - (1 + m))) e)) := by
        unfold execOp
        simp only [ho, resolve, invoke, builtin, Sem.run_bind, Sem.run_pure, Result.andThen_ok, List.map_toArray, List.map_cons, List.map_nil, hv, hX, hr]
      refine ⟨y.heap.size, _, _, _, hex, ((Below.refl y.heap.size y).drew).alloc (Nat.le_refl _) _, hy0, heap_alloc_new y.drew _, fun y' hy' => ⟨?_, .inr ⟨y.heap.size, _, _, rfl, by omega, hy', grownCap_ge y (1 + m) 1 e, grownCap_le_maxLen y (1 + m) 1 e h63, ?_, ?_⟩⟩⟩
      · have := hS.newsLen; simp at this ⊢; omega
      · have h1 := grownCap_ge y (1 + m) 1 e
        have h2 := hS.newsLen
        simp only [Array.size_append, List.size_toArray, List.length_append, List.length_cons, List.length_nil, size_zeroCells, hzs]
        omega
      · have h2 := hS.newsLen
        simp only [Array.toList_append]
        rw [List.take_append_of_le_length (by simp; omega)]
        rw [List.take_of_length_le (by simp; omega)]
        rfl
  intro hne
  refine ⟨.app, ⟨hap, hw, fun x hx => ?_⟩, fun ω hω => ?_⟩
  · obtain ⟨g, cap, obj, w', h1, h2, h3, h4, _⟩ := hrun x hx
    exact ⟨_, w', g, obj, h1, h2, h3, rfl, h4⟩
  · obtain ⟨hB, hv0, x, y, hx, hex, hyB⟩ := hω
    obtain ⟨g, cap, obj, w', h1, h2, h3, h4, h5⟩ := hrun x hx
    rw [h1] at hex
    simp only [Result.ok.injEq, Next.value.injEq] at hex
    obtain ⟨e1, rfl⟩ := hex
    obtain ⟨ωB, ωv, ωo⟩ := ω
    simp only at e1 hv0 hyB
    subst e1
    have e2 : g = ωB := by simpa [Value.ownBlock] using hv0
    subst e2
    rw [h4] at hyB
    injection hyB with e3
    subst e3
    exact h g cap obj h3 h5
end
end Go.Proofs.YtpjafbinlklojaaDoor.OrdC

/- The walk of the document's Same: like lines are the same. -/
namespace Go.Proofs.YtpjafbinlklojaaDoor
open Go.RowKit Go.Deep
theorem bs_same (x : List UInt8) : ((bs x).toList == (bs x).toList) = true := by simp
set_option maxHeartbeats 4000000 in
set_option maxRecDepth 100000 in
theorem rsame_any (A B : Option Addr) (c d : Nat) (L : List (List UInt8)) (w : World) (ha : Txt w A c L) (hb : Txt w B d L) (hn : L.length ≤ 1000000000) :
    Calls Tryd.prog 6 #[.slice A L.length c, .slice B L.length d] w fun e w' => e = .returned (.bool true) ∧ Below w.heap.size w w' := by
  have HA := Lib.hid ha
  have HB := Lib.hid hb
  clear ha hb
  go_enter Tryd.func6, Tryd.ntmps6
  go_upto_region 4 with fail
  go_loopw [13] (fun s13 wr => ∃ i : Nat, i ≤ L.length ∧ s13 = .int .i64 i ∧ Below w.heap.size w wr) (fun s13 _ => L.length - (intOf s13).toNat)
  case atStart => exact ⟨0, Nat.zero_le _, rfl, Below.refl _ _⟩
  case round =>
    obtain ⟨i, hil, rfl, hK⟩ := hrel
    have K := Lib.hid hK
    by_cases h1 : i < L.length
    · obtain ⟨g, o, x, rfl, hg, hx, hc⟩ := HA.out.at_ h1
      obtain ⟨g2, o2, x2, rfl, hg2, hx2, hc2⟩ := HB.out.at_ h1
      obtain rfl : x = x2 := by rw [hx] at hx2; exact Option.some.inj hx2
      have c1 : wr.cell? ⟨g, o + i, none⟩ = some (.string (bs x)) := by rw [World.cell?_of_block (hK.block g hg)]; exact hc
      have c2 : wr.cell? ⟨g2, o2 + i, none⟩ = some (.string (bs x)) := by rw [World.cell?_of_block (hK.block g2 hg2)]; exact hc2
      have z1 : g < wr.heap.size := Nat.lt_of_lt_of_le hg hK.size
      have z2 : g2 < wr.heap.size := Nat.lt_of_lt_of_le hg2 hK.size
      have hbb := bs_same x
      have i1 : ¬ ((i : Int) < 0) := by omega
      have i2 : (i : Int) < (L.length : Int) := by omega
      clear hK hx hx2 hc hc2 hg hg2
      go_upto_region 6 with fail
      go_quiet (fail)
      go_wp2_with fail
      exact ⟨⟨i + 1, h1, rfl, below_drewN K.out _⟩, less_next h1⟩
    · clear hK
      go_wp2_with fail
      go_ret
      exact ⟨rfl, K.out⟩
/-- A row that a call returned, told by its block. -/
def SF (L : List (List UInt8)) (ω : OrdC.Out) : Prop := ω.got = true ∧ ∃ A c, ω.v = .slice A L.length c ∧ ∀ y : World, y.heap[ω.B]? = some ω.obj → Txt y A c L
theorem trow_out {y : World} {base : Nat} {v : Value} {L : List (List UInt8)} (h : TRow y base v L) (hne : L ≠ []) : ∃ ω : OrdC.Out, ω.v = v ∧ (base ≤ ω.B ∧ y.heap[ω.B]? = some ω.obj) ∧ SF L ω := by
  obtain ⟨hl, ho⟩ := h
  rcases ho with ⟨_, hn⟩ | ⟨g, cap, cur, rfl, hb, hg, hc, _, _, ht⟩
  · exact absurd (List.eq_nil_of_length_eq_zero hn) hne
  · refine ⟨⟨g, _, .cells cur 9 (0, 0), true⟩, rfl, ⟨hb, hg⟩, rfl, _, _, rfl, fun y2 hy2 => ⟨hc, fun _ => ⟨g, 0, rfl, (Array.getElem?_eq_some_iff.1 hy2).1, fun j x hx => ?_⟩⟩⟩
    rw [Nat.zero_add, Lib.cell_of_heap hy2, ← Array.getElem?_toList]
    have h2 := sc_get hx
    rw [← ht, List.getElem?_take] at h2
    split at h2
    · exact h2
    · cases h2
end Go.Proofs.YtpjafbinlklojaaDoor
