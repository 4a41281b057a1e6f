/- Joined texts: Fix, ClsLaw. -/
import Derived.Test.YtpjafbinlklojaaDoorPk8
import Derived.Test.YtpjafbinlklojaaDoorPk9
import Derived.Test.YtpjafbinlklojaaDoorPk6
/- Layer 35: fixed, by what any class tells. -/
namespace Go.Proofs.YtpjafbinlklojaaDoor
open Go.RowKit Go.Deep

theorem bs_cons (l : List UInt8) : bs l = ⟨l.toArray⟩ := rfl
def cls49 : Cls := { minor := 0, major := 49, flags := 0, this := [65], super := [], faces := [], fields := [], methods := [], attrs := { has := 0, code := { stack := 0, locals := 0, ops := [], handlers := [], has := 0, lines := [], slots := [] }, value := { tag := 0, text := [], bits := 0, cls := [], name := [], desc := [] }, throws := [], inners := [], signature := [], source := [] } }
abbrev cells49 : List Value := [.int .i64 0, .int .i64 49, .int .i64 0, .string ⟨#[65]⟩, .string ⟨#[]⟩, .slice none 0 0, .slice none 0 0, .slice none 0 0, .int .i64 0, .int .i64 0, .int .i64 0, .slice none 0 0, .slice none 0 0, .int .i64 0, .slice none 0 0, .slice none 0 0, .int .i64 0, .string ⟨#[]⟩, .int .u64 0, .string ⟨#[]⟩, .string ⟨#[]⟩, .string ⟨#[]⟩, .slice none 0 0, .slice none 0 0, .string ⟨#[]⟩, .string ⟨#[]⟩]
theorem cls49_rd (w : World) : Cls.rd w cells49 cls49 :=
  ⟨rfl, rfl, rfl, rfl, rfl, rfl, ⟨none, 0, rfl, Txt.nil _ _ _, fun _ => rfl⟩, ⟨none, 0, rfl, Sl.nil _ _ _, fun _ => rfl⟩, ⟨none, 0, rfl, Sl.nil _ _ _, fun _ => rfl⟩,
    ⟨rfl, rfl, ⟨rfl, rfl, rfl, ⟨none, 0, rfl, Sl.nil _ _ _, fun _ => rfl⟩, ⟨none, 0, rfl, Sl.nil _ _ _, fun _ => rfl⟩, rfl, ⟨none, 0, rfl, Sl.nil _ _ _, fun _ => rfl⟩, ⟨none, 0, rfl, Sl.nil _ _ _, fun _ => rfl⟩⟩,
      ⟨rfl, rfl, rfl, rfl, rfl, rfl⟩, ⟨none, 0, rfl, Txt.nil _ _ _, fun _ => rfl⟩, ⟨none, 0, rfl, Sl.nil _ _ _, fun _ => rfl⟩, rfl, rfl⟩⟩
theorem cls49_good : cls49.good := by simp [cls49, Cls.good, Atr.good, Cde.good, Pv.fits, I64]
theorem cls49_lines : Li.cls cls49 = [[99, 108, 97, 115, 115, 32, 65, 32, 115, 117, 112, 101, 114, 32, 45, 32, 118, 101, 114, 115, 105, 111, 110, 32, 52, 57, 32, 48, 32, 102, 108, 97, 103, 115, 32, 48, 32, 98, 101, 115, 105, 100, 101, 32, 48]] := by decide +kernel
set_option maxHeartbeats 8000000 in
set_option maxRecDepth 100000 in
theorem fixed_any (w : World) (ht : TabP w) :
    Calls Tryd.prog 4 #[] w fun e w' => e = .returned (.bool true) ∧ Below w.heap.size w w' := by
  have HT := Lib.hid ht
  have HC := Lib.hid (show Calls Tryd.prog 7 #[.agg cells49.toArray] w _ from class_any w cls49 cells49 (cls49_rd w) cls49_good (by decide) ht)
  have t1 := Lib.hid (show Li.text [97, 32, 98, 37] = [97, 37, 50, 48, 98, 37, 50, 53] by decide +kernel)
  have t3 := Lib.hid (show Li.value ⟨3, [], 7, [], [], []⟩ = [51, 32, 55] by decide +kernel)
  have t4 := Lib.hid (show Li.line [Li.ints [0, 177, 0, 0, 0], Li.value ⟨0, [], 0, [], [], []⟩] = [48, 32, 49, 55, 55, 32, 48, 32, 48, 32, 48, 32, 48] by decide +kernel)
  clear ht
  go_enter Tryd.func4, Tryd.ntmps4
  go_wp2_with fail
  refine HC.out.mono ?_
  rintro e w1 ⟨v, rfl, hrow, hb⟩
  rw [cls49_lines] at hrow
  obtain ⟨A, c, rfl, hS⟩ := hrow.reads
  obtain ⟨g, o, x, rfl, hg, hx, hc⟩ := hS.at_ (i := 0) (by simp)
  obtain rfl : x = [99, 108, 97, 115, 115, 32, 65, 32, 115, 117, 112, 101, 114, 32, 45, 32, 118, 101, 114, 115, 105, 111, 110, 32, 52, 57, 32, 48, 32, 102, 108, 97, 103, 115, 32, 48, 32, 98, 101, 115, 105, 100, 101, 32, 48] := by simpa using hx.symm
  rw [bs_cons, Nat.add_zero] at hc
  have J1 := Lib.hid hb
  have L1 := Lib.hid hc
  clear hb hc HC hrow hS hx
  go_wp2_with fail
  refine (text_any [97, 32, 98, 37] _ (by simp)).mono ?_
  rintro e w2 ⟨rfl, hb⟩
  rw [t1.out, bs_cons]
  have J2 := Lib.hid (Below.after' J1.out hb (Nat.le_refl _))
  have f1 : w2.cell? ⟨g, o, none⟩ = _ := (hb.cell (p := ⟨g, o, none⟩) hg).trans L1.out
  have hz : g < w2.heap.size := Nat.lt_of_lt_of_le hg hb.size
  clear hb
  go_wp2_with fail
  refine (value_any ⟨3, [], 7, [], [], []⟩ _ ⟨by simp [I64], by simp, by simp, by simp, by simp, by simp⟩ (tab_below HT.out J2.out)).mono ?_
  rintro e w3 ⟨rfl, hb⟩
  rw [t3.out, bs_cons]
  have J3 := Lib.hid (Below.after' J2.out hb (Nat.le_refl _))
  clear hb f1 hz
  go_wp2_with fail
  refine (ins_177 _ (tab_below HT.out J3.out)).mono ?_
  rintro e w4 ⟨rfl, hb⟩
  rw [t4.out, bs_cons]
  have J4 := Lib.hid (Below.after' J3.out hb (Nat.le_refl _))
  clear hb
  go_wp2
  go_ret
  exact ⟨rfl, J4.out⟩
end Go.Proofs.YtpjafbinlklojaaDoor

/- The walk of layer 35's first law: any class's lines are the document's. Printed by mk_claw.py. -/
namespace Go.Proofs.YtpjafbinlklojaaDoor
open Go.RowKit Go.Deep
namespace OrdC
open Go.Proofs.YtpjafbinlklojaaDoor
variable {fr : Oper → Nat} {Ψ : Oper → Out → Prop} {P : Program} {ops : Array Oper} {Q : Exit → Act → World → Prop} {w0 : World} {E : Env} {tail rest : List Oper} {o : Oper} {a : Act}
theorem lex_call (hs : sp fr o = 2) (hw : Region.wanted o (yielded ops a.tmps) = true) (f : FuncId) (args : Array Value) (hrun : ∀ x, Cl w0 (E.only ops o) x → (execOp a.eval o).run P x = .ok (.enter f args) x)
    (hc : ∀ x, Cl w0 (E.only ops o) x → Calls P f args x fun e y => ∃ ω : Out, e = .returned ω.v ∧ Below x.heap.size x y ∧ (ω.got = true → w0.heap.size ≤ ω.B ∧ y.heap[ω.B]? = some ω.obj) ∧ Ψ o ω)
    (h : ∀ ω : Out, Ψ o ω → wpLex fr Ψ P ops Q w0 tail rest (if ω.got then E.upd o.dst ω.B ω.obj else E) (a.put o.dst ω.v)) : wpLex fr Ψ P ops Q w0 tail (o :: rest) E a :=
  fun _ => ⟨.call, ⟨hs, hw, fun x hx => ⟨f, args, hrun x hx, hc x hx⟩⟩, fun ω hω => h ω hω.1⟩
theorem lex_val (hna : sp fr o = 0) (hw : Region.wanted o (yielded ops a.tmps) = true) (v : Value) (hrun : ∀ x, Cl w0 (E.only ops o) x → (execOp a.eval o).run P x = .ok (.value v) x)
    (h : wpLex fr Ψ P ops Q w0 tail rest E (a.put o.dst v)) : wpLex fr Ψ P ops Q w0 tail (o :: rest) E a :=
  fun _ => ⟨.val v, ⟨hna, .inl ⟨hw, fun x hx => by unfold Oper.quietAt; rw [hrun x hx]; exact ⟨rfl, rfl⟩⟩⟩, fun _ _ => h⟩
theorem lex_callv (hna : sp fr o = 0) (hw : Region.wanted o (yielded ops a.tmps) = true) (f : FuncId) (args : Array Value) (v : Value) (hrun : ∀ x, Cl w0 (E.only ops o) x → (execOp a.eval o).run P x = .ok (.enter f args) x)
    (hc : ∀ x, Cl w0 (E.only ops o) x → Calls P f args x fun e y => e = .returned v ∧ Below x.heap.size x y)
    (h : wpLex fr Ψ P ops Q w0 tail rest E (a.put o.dst v)) : wpLex fr Ψ P ops Q w0 tail (o :: rest) E a :=
  fun _ => ⟨.val v, ⟨hna, .inl ⟨hw, fun x hx => by unfold Oper.quietAt; rw [hrun x hx]; exact ⟨rfl, hc x hx⟩⟩⟩, fun _ _ => h⟩
end OrdC
theorem cls_ne (y : Cls) : Li.cls y ≠ [] := by unfold Li.cls; exact List.cons_ne_nil _ _
theorem cls_lines (y : Cls) (hg : y.good) (hb : y.blk ≤ 2000000) : (Li.cls y).length ≤ 1000000000 := by
  obtain ⟨_, _, _, _, _, _, _, _, _, _, _, h1, h2, h3, h4, h5⟩ := cls_ok hg hb
  have := h5 y.methods.length
  rw [List.take_length] at this
  unfold Li.cls
  simp only [List.length_cons, List.length_append, List.length_map]
  omega
theorem class_told {w0 x : World} (hk : Below w0.heap.size w0 x) {y : Cls} {cs : List Value} (hr : Cls.rd x cs y) (hg : y.good) (hb : y.blk ≤ 2000000) (ht : TabP x) :
    Calls Tryd.prog 7 #[.agg cs.toArray] x fun e z => ∃ ω : OrdC.Out, e = .returned ω.v ∧ Below x.heap.size x z ∧ (ω.got = true → w0.heap.size ≤ ω.B ∧ z.heap[ω.B]? = some ω.obj) ∧ SF (Li.cls y) ω := by
  refine (class_any x y cs hr hg hb ht).mono ?_
  rintro e z ⟨v, rfl, hrow, hb2⟩
  obtain ⟨ω, h1, h2, h3⟩ := trow_out hrow (cls_ne y)
  exact ⟨ω, by rw [h1], hb2, fun _ => ⟨Nat.le_trans hk.size h2.1, h2.2⟩, h3⟩
theorem rclass_told {w0 x : World} (hk : Below w0.heap.size w0 x) {y : Cls} {cs : List Value} (hr : Cls.rd x cs y) (hg : y.good) (hb : y.blk ≤ 2000000) :
    Calls Tryd.prog 8 #[.agg cs.toArray] x fun e z => ∃ ω : OrdC.Out, e = .returned ω.v ∧ Below x.heap.size x z ∧ (ω.got = true → w0.heap.size ≤ ω.B ∧ z.heap[ω.B]? = some ω.obj) ∧ SF (Li.cls y) ω := by
  refine (rclass_any x y cs hr hg hb).mono ?_
  rintro e z ⟨v, rfl, hrow, hb2⟩
  obtain ⟨ω, h1, h2, h3⟩ := trow_out hrow (cls_ne y)
  exact ⟨ω, by rw [h1], hb2, fun _ => ⟨Nat.le_trans hk.size h2.1, h2.2⟩, h3⟩
theorem same_told {x : World} {L : List (List UInt8)} {ω1 ω2 : OrdC.Out} (h1 : SF L ω1) (h2 : SF L ω2) (e1 : x.heap[ω1.B]? = some ω1.obj) (e2 : x.heap[ω2.B]? = some ω2.obj) (hn : L.length ≤ 1000000000) :
    Calls Tryd.prog 6 #[ω1.v, ω2.v] x fun e y => e = .returned (.bool true) ∧ Below x.heap.size x y := by
  obtain ⟨_, A, c, f1, g1⟩ := h1
  obtain ⟨_, B, d, f2, g2⟩ := h2
  rw [f1, f2]
  exact rsame_any A B c d L x (g1 x e1) (g2 x e2) hn
set_option maxHeartbeats 16000000 in
set_option maxRecDepth 100000 in
theorem classes_any (w : World) (y : Cls) (cs : List Value) (hr : Cls.rd w cs y) (hg : y.good) (hb : y.blk ≤ 2000000) (ht : TabP w) :
    Calls Tryd.prog 3 #[.agg cs.toArray] w fun e w' => e = .returned (.bool true) ∧ Below w.heap.size w w' := by
  have HRD := Lib.hid (fun w' (k : Below w.heap.size w w') => Cls.rd_grow hr k)
  have hsz : (tlCls y).size ≤ 100000000 := Nat.le_trans (size_cls y) (by omega)
  have HLL := Lib.hid (cls_lines y hg hb)
  obtain ⟨B5, d5, B6, d6, B7, d7, C0, e0, C1, e1, C2, e2, C3, e3, C4, e4, C5, e5, rfl, _⟩ := Cls.leafs hr
  have k1 := (Below.refl w.heap.size w).alloc (Nat.le_refl _) (.cells #[.int .i64 y.minor, .int .i64 y.major, .int .i64 y.flags, .string (bs y.this), .string (bs y.super), .slice B5 y.faces.length d5, .slice B6 y.fields.length d6, .slice B7 y.methods.length d7, .int .i64 y.attrs.has, .int .i64 y.attrs.code.stack, .int .i64 y.attrs.code.locals, .slice C0 y.attrs.code.ops.length e0, .slice C1 y.attrs.code.handlers.length e1, .int .i64 y.attrs.code.has, .slice C2 y.attrs.code.lines.length e2, .slice C3 y.attrs.code.slots.length e3, .int .i64 y.attrs.value.tag, .string (bs y.attrs.value.text), .int .u64 y.attrs.value.bits, .string (bs y.attrs.value.cls), .string (bs y.attrs.value.name), .string (bs y.attrs.value.desc), .slice C4 y.attrs.throws.length e4, .slice C5 y.attrs.inners.length e5, .string (bs y.attrs.signature), .string (bs y.attrs.source)] 37)
  have X0 := Lib.hid (heap_alloc_new w (.cells #[.int .i64 y.minor, .int .i64 y.major, .int .i64 y.flags, .string (bs y.this), .string (bs y.super), .slice B5 y.faces.length d5, .slice B6 y.fields.length d6, .slice B7 y.methods.length d7, .int .i64 y.attrs.has, .int .i64 y.attrs.code.stack, .int .i64 y.attrs.code.locals, .slice C0 y.attrs.code.ops.length e0, .slice C1 y.attrs.code.handlers.length e1, .int .i64 y.attrs.code.has, .slice C2 y.attrs.code.lines.length e2, .slice C3 y.attrs.code.slots.length e3, .int .i64 y.attrs.value.tag, .string (bs y.attrs.value.text), .int .u64 y.attrs.value.bits, .string (bs y.attrs.value.cls), .string (bs y.attrs.value.name), .string (bs y.attrs.value.desc), .slice C4 y.attrs.throws.length e4, .slice C5 y.attrs.inners.length e5, .string (bs y.attrs.signature), .string (bs y.attrs.source)] 37))
  have K0 := Lib.hid k1
  have HT := Lib.hid ht
  clear k1 hr ht
  go_enter Tryd.func3, Tryd.ntmps3
  go_upto_region 1 with fail
  generalize w.alloc (.cells #[.int .i64 y.minor, .int .i64 y.major, .int .i64 y.flags, .string (bs y.this), .string (bs y.super), .slice B5 y.faces.length d5, .slice B6 y.fields.length d6, .slice B7 y.methods.length d7, .int .i64 y.attrs.has, .int .i64 y.attrs.code.stack, .int .i64 y.attrs.code.locals, .slice C0 y.attrs.code.ops.length e0, .slice C1 y.attrs.code.handlers.length e1, .int .i64 y.attrs.code.has, .slice C2 y.attrs.code.lines.length e2, .slice C3 y.attrs.code.slots.length e3, .int .i64 y.attrs.value.tag, .string (bs y.attrs.value.text), .int .u64 y.attrs.value.bits, .string (bs y.attrs.value.cls), .string (bs y.attrs.value.name), .string (bs y.attrs.value.desc), .slice C4 y.attrs.throws.length e4, .slice C5 y.attrs.inners.length e5, .string (bs y.attrs.signature), .string (bs y.attrs.source)] 37) = W at X0 K0 ⊢
  have CF := Lib.hid (fixed_any W (tab_below HT.out K0.out))
  go_upto_region 3 with fail
  refine CF.out.mono ?_
  rintro e w1 ⟨rfl, hb1⟩
  have z0 := (Array.getElem?_eq_some_iff.1 X0.out).1
  have K1 := Lib.hid (K0.out.trans (hb1.mono K0.out.size))
  have X1 := Lib.hid ((hb1.block _ z0).trans X0.out)
  clear hb1 CF X0 K0 z0
  go_upto_region 3 with fail
  have z1 : w.heap.size < w1.drew.heap.size := (Array.getElem?_eq_some_iff.1 X1.out).1
  have HCA := Lib.hid (fun x (hx : Below w1.drew.heap.size w1.drew x) => (show CellsAt w1.drew w.heap.size 0 [.int .i64 y.minor, .int .i64 y.major, .int .i64 y.flags, .string (bs y.this), .string (bs y.super), .slice B5 y.faces.length d5, .slice B6 y.fields.length d6, .slice B7 y.methods.length d7, .int .i64 y.attrs.has, .int .i64 y.attrs.code.stack, .int .i64 y.attrs.code.locals, .slice C0 y.attrs.code.ops.length e0, .slice C1 y.attrs.code.handlers.length e1, .int .i64 y.attrs.code.has, .slice C2 y.attrs.code.lines.length e2, .slice C3 y.attrs.code.slots.length e3, .int .i64 y.attrs.value.tag, .string (bs y.attrs.value.text), .int .u64 y.attrs.value.bits, .string (bs y.attrs.value.cls), .string (bs y.attrs.value.name), .string (bs y.attrs.value.desc), .slice C4 y.attrs.throws.length e4, .slice C5 y.attrs.inners.length e5, .string (bs y.attrs.signature), .string (bs y.attrs.source)] from cellsAt_block (w := w1.drew) X1.out 0 26).grow hx z1)
  have hcl : (Tryd.prog.info? 37).map (·.size) = some 26 := by kernel_rfl
  have HR1 := Lib.hid (fun x (hx : Below w1.drew.heap.size w1.drew x) => HRD.out x (K1.out.drew.trans (hx.mono K1.out.size)))
  have HT1 := Lib.hid (fun x (hx : Below w1.drew.heap.size w1.drew x) => tab_below HT.out (K1.out.drew.trans (hx.mono K1.out.size)))
  cases hf : (tlCls y).few with
  | false =>
    refine OrdC.wp_region_ord (fr := fun _ => 0) (Ψ := fun _ ω => SF (Li.cls y) ω) 11 (by kernel_rfl) (by kernel_rfl) (fun _ _ d _ _ h => by cases d <;> exact h) ?_
    try simp only [List.take_succ_cons, List.take_zero, List.drop_succ_cons, List.drop_zero]
    refine OrdC.lex_val rfl rfl (.agg #[.int .i64 y.minor, .int .i64 y.major, .int .i64 y.flags, .string (bs y.this), .string (bs y.super), .slice B5 y.faces.length d5, .slice B6 y.fields.length d6, .slice B7 y.methods.length d7, .int .i64 y.attrs.has, .int .i64 y.attrs.code.stack, .int .i64 y.attrs.code.locals, .slice C0 y.attrs.code.ops.length e0, .slice C1 y.attrs.code.handlers.length e1, .int .i64 y.attrs.code.has, .slice C2 y.attrs.code.lines.length e2, .slice C3 y.attrs.code.slots.length e3, .int .i64 y.attrs.value.tag, .string (bs y.attrs.value.text), .int .u64 y.attrs.value.bits, .string (bs y.attrs.value.cls), .string (bs y.attrs.value.name), .string (bs y.attrs.value.desc), .slice C4 y.attrs.throws.length e4, .slice C5 y.attrs.inners.length e5, .string (bs y.attrs.signature), .string (bs y.attrs.source)]) (fun x hx => run_load_cells 37 _ rfl w.heap.size 0 rfl _ (HCA.out x hx.below) _ Tryd.underlying37 rfl hcl) ?_
    simp only [Act.put, List.setIfInBounds_toArray, List.set_cons_zero, List.set_cons_succ]
    refine OrdC.lex_callv rfl rfl 5 #[.agg #[.int .i64 y.minor, .int .i64 y.major, .int .i64 y.flags, .string (bs y.this), .string (bs y.super), .slice B5 y.faces.length d5, .slice B6 y.fields.length d6, .slice B7 y.methods.length d7, .int .i64 y.attrs.has, .int .i64 y.attrs.code.stack, .int .i64 y.attrs.code.locals, .slice C0 y.attrs.code.ops.length e0, .slice C1 y.attrs.code.handlers.length e1, .int .i64 y.attrs.code.has, .slice C2 y.attrs.code.lines.length e2, .slice C3 y.attrs.code.slots.length e3, .int .i64 y.attrs.value.tag, .string (bs y.attrs.value.text), .int .u64 y.attrs.value.bits, .string (bs y.attrs.value.cls), .string (bs y.attrs.value.name), .string (bs y.attrs.value.desc), .slice C4 y.attrs.throws.length e4, .slice C5 y.attrs.inners.length e5, .string (bs y.attrs.signature), .string (bs y.attrs.source)]] (.bool false) (fun x hx => by go_simp) (fun x hx => by have h := few_any x y _ (HR1.out x hx.below) hg hsz; rw [hf] at h; exact h) ?_
    simp only [Act.put, List.setIfInBounds_toArray, List.set_cons_zero, List.set_cons_succ]
    try simp only [List.take_succ_cons, List.take_zero, List.drop_succ_cons, List.drop_zero]
    repeat (first | (refine OrdC.wpLex_skip rfl rfl ?_; simp only [Act.put, List.setIfInBounds_toArray, List.set_cons_zero, List.set_cons_succ]) | (refine OrdC.wpLex_fix rfl rfl ?_; intro F hF R hR hne K hK; go_big_quiet_op; first | (go_big_quiet_on; clear hne hR R hF F) | (apply Exists.intro; refine ⟨fun g => ?_, ?_⟩; (((fail))); go_big_quiet_on; clear hne hR R hF F)) | (apply OrdC.wpLex_blk rfl rfl; (focus (intro x hx; go_simp; exact ⟨rfl, rfl⟩)); intro B hB; simp only [Act.put, blkVal, List.setIfInBounds_toArray, List.set_cons_zero, List.set_cons_succ]))
    refine OrdC.wpLex_nil ?_
    intro w2 hw2
    have J := Lib.hid (K1.out.trans (((Below.refl w1.heap.size w1).drew.trans hw2.below).mono K1.out.size))
    clear hw2
    go_wp2_with fail
    go_ret
    exact ⟨rfl, J.out⟩
  | true =>
    refine OrdC.wp_region_ord (fr := fun o => if o.dst == some 10 || o.dst == some 12 then 2 else 0) (Ψ := fun _ ω => SF (Li.cls y) ω) 11 (by kernel_rfl) (by kernel_rfl) (fun _ _ d _ _ h => by cases d <;> exact h) ?_
    try simp only [List.take_succ_cons, List.take_zero, List.drop_succ_cons, List.drop_zero]
    refine OrdC.lex_val rfl rfl (.agg #[.int .i64 y.minor, .int .i64 y.major, .int .i64 y.flags, .string (bs y.this), .string (bs y.super), .slice B5 y.faces.length d5, .slice B6 y.fields.length d6, .slice B7 y.methods.length d7, .int .i64 y.attrs.has, .int .i64 y.attrs.code.stack, .int .i64 y.attrs.code.locals, .slice C0 y.attrs.code.ops.length e0, .slice C1 y.attrs.code.handlers.length e1, .int .i64 y.attrs.code.has, .slice C2 y.attrs.code.lines.length e2, .slice C3 y.attrs.code.slots.length e3, .int .i64 y.attrs.value.tag, .string (bs y.attrs.value.text), .int .u64 y.attrs.value.bits, .string (bs y.attrs.value.cls), .string (bs y.attrs.value.name), .string (bs y.attrs.value.desc), .slice C4 y.attrs.throws.length e4, .slice C5 y.attrs.inners.length e5, .string (bs y.attrs.signature), .string (bs y.attrs.source)]) (fun x hx => run_load_cells 37 _ rfl w.heap.size 0 rfl _ (HCA.out x hx.below) _ Tryd.underlying37 rfl hcl) ?_
    simp only [Act.put, List.setIfInBounds_toArray, List.set_cons_zero, List.set_cons_succ]
    refine OrdC.lex_callv rfl rfl 5 #[.agg #[.int .i64 y.minor, .int .i64 y.major, .int .i64 y.flags, .string (bs y.this), .string (bs y.super), .slice B5 y.faces.length d5, .slice B6 y.fields.length d6, .slice B7 y.methods.length d7, .int .i64 y.attrs.has, .int .i64 y.attrs.code.stack, .int .i64 y.attrs.code.locals, .slice C0 y.attrs.code.ops.length e0, .slice C1 y.attrs.code.handlers.length e1, .int .i64 y.attrs.code.has, .slice C2 y.attrs.code.lines.length e2, .slice C3 y.attrs.code.slots.length e3, .int .i64 y.attrs.value.tag, .string (bs y.attrs.value.text), .int .u64 y.attrs.value.bits, .string (bs y.attrs.value.cls), .string (bs y.attrs.value.name), .string (bs y.attrs.value.desc), .slice C4 y.attrs.throws.length e4, .slice C5 y.attrs.inners.length e5, .string (bs y.attrs.signature), .string (bs y.attrs.source)]] (.bool true) (fun x hx => by go_simp) (fun x hx => by have h := few_any x y _ (HR1.out x hx.below) hg hsz; rw [hf] at h; exact h) ?_
    simp only [Act.put, List.setIfInBounds_toArray, List.set_cons_zero, List.set_cons_succ]
    try simp only [List.take_succ_cons, List.take_zero, List.drop_succ_cons, List.drop_zero]
    repeat (first | (refine OrdC.wpLex_skip rfl rfl ?_; simp only [Act.put, List.setIfInBounds_toArray, List.set_cons_zero, List.set_cons_succ]) | (refine OrdC.wpLex_fix rfl rfl ?_; intro F hF R hR hne K hK; go_big_quiet_op; first | (go_big_quiet_on; clear hne hR R hF F) | (apply Exists.intro; refine ⟨fun g => ?_, ?_⟩; (((fail))); go_big_quiet_on; clear hne hR R hF F)) | (apply OrdC.wpLex_blk rfl rfl; (focus (intro x hx; go_simp; exact ⟨rfl, rfl⟩)); intro B hB; simp only [Act.put, blkVal, List.setIfInBounds_toArray, List.set_cons_zero, List.set_cons_succ]))
    refine OrdC.lex_val rfl rfl (.agg #[.int .i64 y.minor, .int .i64 y.major, .int .i64 y.flags, .string (bs y.this), .string (bs y.super), .slice B5 y.faces.length d5, .slice B6 y.fields.length d6, .slice B7 y.methods.length d7, .int .i64 y.attrs.has, .int .i64 y.attrs.code.stack, .int .i64 y.attrs.code.locals, .slice C0 y.attrs.code.ops.length e0, .slice C1 y.attrs.code.handlers.length e1, .int .i64 y.attrs.code.has, .slice C2 y.attrs.code.lines.length e2, .slice C3 y.attrs.code.slots.length e3, .int .i64 y.attrs.value.tag, .string (bs y.attrs.value.text), .int .u64 y.attrs.value.bits, .string (bs y.attrs.value.cls), .string (bs y.attrs.value.name), .string (bs y.attrs.value.desc), .slice C4 y.attrs.throws.length e4, .slice C5 y.attrs.inners.length e5, .string (bs y.attrs.signature), .string (bs y.attrs.source)]) (fun x hx => run_load_cells 37 _ rfl w.heap.size 0 rfl _ (HCA.out x hx.below) _ Tryd.underlying37 rfl hcl) ?_
    simp only [Act.put, List.setIfInBounds_toArray, List.set_cons_zero, List.set_cons_succ]
    refine OrdC.lex_call rfl rfl 7 #[.agg #[.int .i64 y.minor, .int .i64 y.major, .int .i64 y.flags, .string (bs y.this), .string (bs y.super), .slice B5 y.faces.length d5, .slice B6 y.fields.length d6, .slice B7 y.methods.length d7, .int .i64 y.attrs.has, .int .i64 y.attrs.code.stack, .int .i64 y.attrs.code.locals, .slice C0 y.attrs.code.ops.length e0, .slice C1 y.attrs.code.handlers.length e1, .int .i64 y.attrs.code.has, .slice C2 y.attrs.code.lines.length e2, .slice C3 y.attrs.code.slots.length e3, .int .i64 y.attrs.value.tag, .string (bs y.attrs.value.text), .int .u64 y.attrs.value.bits, .string (bs y.attrs.value.cls), .string (bs y.attrs.value.name), .string (bs y.attrs.value.desc), .slice C4 y.attrs.throws.length e4, .slice C5 y.attrs.inners.length e5, .string (bs y.attrs.signature), .string (bs y.attrs.source)]] (fun x hx => by go_simp) (fun x hx => class_told hx.below (HR1.out x hx.below) hg hb (HT1.out x hx.below)) ?_
    intro ω10 hω10
    have R10 := Lib.hid (show SF (Li.cls y) ω10 from hω10)
    rw [if_pos R10.out.1]
    clear hω10
    simp only [Act.put, List.setIfInBounds_toArray, List.set_cons_zero, List.set_cons_succ]
    try simp only [List.take_succ_cons, List.take_zero, List.drop_succ_cons, List.drop_zero]
    repeat (first | (refine OrdC.wpLex_skip rfl rfl ?_; simp only [Act.put, List.setIfInBounds_toArray, List.set_cons_zero, List.set_cons_succ]) | (refine OrdC.wpLex_fix rfl rfl ?_; intro F hF R hR hne K hK; go_big_quiet_op; first | (go_big_quiet_on; clear hne hR R hF F) | (apply Exists.intro; refine ⟨fun g => ?_, ?_⟩; (((fail))); go_big_quiet_on; clear hne hR R hF F)) | (apply OrdC.wpLex_blk rfl rfl; (focus (intro x hx; go_simp; exact ⟨rfl, rfl⟩)); intro B hB; simp only [Act.put, blkVal, List.setIfInBounds_toArray, List.set_cons_zero, List.set_cons_succ]))
    refine OrdC.lex_val rfl rfl (.agg #[.int .i64 y.minor, .int .i64 y.major, .int .i64 y.flags, .string (bs y.this), .string (bs y.super), .slice B5 y.faces.length d5, .slice B6 y.fields.length d6, .slice B7 y.methods.length d7, .int .i64 y.attrs.has, .int .i64 y.attrs.code.stack, .int .i64 y.attrs.code.locals, .slice C0 y.attrs.code.ops.length e0, .slice C1 y.attrs.code.handlers.length e1, .int .i64 y.attrs.code.has, .slice C2 y.attrs.code.lines.length e2, .slice C3 y.attrs.code.slots.length e3, .int .i64 y.attrs.value.tag, .string (bs y.attrs.value.text), .int .u64 y.attrs.value.bits, .string (bs y.attrs.value.cls), .string (bs y.attrs.value.name), .string (bs y.attrs.value.desc), .slice C4 y.attrs.throws.length e4, .slice C5 y.attrs.inners.length e5, .string (bs y.attrs.signature), .string (bs y.attrs.source)]) (fun x hx => run_load_cells 37 _ rfl w.heap.size 0 rfl _ (HCA.out x hx.below) _ Tryd.underlying37 rfl hcl) ?_
    simp only [Act.put, List.setIfInBounds_toArray, List.set_cons_zero, List.set_cons_succ]
    refine OrdC.lex_call rfl rfl 8 #[.agg #[.int .i64 y.minor, .int .i64 y.major, .int .i64 y.flags, .string (bs y.this), .string (bs y.super), .slice B5 y.faces.length d5, .slice B6 y.fields.length d6, .slice B7 y.methods.length d7, .int .i64 y.attrs.has, .int .i64 y.attrs.code.stack, .int .i64 y.attrs.code.locals, .slice C0 y.attrs.code.ops.length e0, .slice C1 y.attrs.code.handlers.length e1, .int .i64 y.attrs.code.has, .slice C2 y.attrs.code.lines.length e2, .slice C3 y.attrs.code.slots.length e3, .int .i64 y.attrs.value.tag, .string (bs y.attrs.value.text), .int .u64 y.attrs.value.bits, .string (bs y.attrs.value.cls), .string (bs y.attrs.value.name), .string (bs y.attrs.value.desc), .slice C4 y.attrs.throws.length e4, .slice C5 y.attrs.inners.length e5, .string (bs y.attrs.signature), .string (bs y.attrs.source)]] (fun x hx => by go_simp) (fun x hx => rclass_told hx.below (HR1.out x hx.below) hg hb) ?_
    intro ω12 hω12
    have R12 := Lib.hid (show SF (Li.cls y) ω12 from hω12)
    rw [if_pos R12.out.1]
    clear hω12
    simp only [Act.put, List.setIfInBounds_toArray, List.set_cons_zero, List.set_cons_succ]
    try simp only [List.take_succ_cons, List.take_zero, List.drop_succ_cons, List.drop_zero]
    repeat (first | (refine OrdC.wpLex_skip rfl rfl ?_; simp only [Act.put, List.setIfInBounds_toArray, List.set_cons_zero, List.set_cons_succ]) | (refine OrdC.wpLex_fix rfl rfl ?_; intro F hF R hR hne K hK; go_big_quiet_op; first | (go_big_quiet_on; clear hne hR R hF F) | (apply Exists.intro; refine ⟨fun g => ?_, ?_⟩; (((fail))); go_big_quiet_on; clear hne hR R hF F)) | (apply OrdC.wpLex_blk rfl rfl; (focus (intro x hx; go_simp; exact ⟨rfl, rfl⟩)); intro B hB; simp only [Act.put, blkVal, List.setIfInBounds_toArray, List.set_cons_zero, List.set_cons_succ]))
    refine OrdC.lex_callv rfl rfl 6 #[ω10.v, ω12.v] (.bool true) (fun x hx => by go_simp) (fun x hx => same_told R10.out R12.out (hx.fact 10 _ _ ⟨by kernel_rfl, .inl (.inr ⟨rfl, rfl, rfl⟩)⟩).2 (hx.fact 12 _ _ ⟨by kernel_rfl, .inr ⟨rfl, rfl, rfl⟩⟩).2 HLL.out) ?_
    simp only [Act.put, List.setIfInBounds_toArray, List.set_cons_zero, List.set_cons_succ]
    try simp only [List.take_succ_cons, List.take_zero, List.drop_succ_cons, List.drop_zero]
    repeat (first | (refine OrdC.wpLex_skip rfl rfl ?_; simp only [Act.put, List.setIfInBounds_toArray, List.set_cons_zero, List.set_cons_succ]) | (refine OrdC.wpLex_fix rfl rfl ?_; intro F hF R hR hne K hK; go_big_quiet_op; first | (go_big_quiet_on; clear hne hR R hF F) | (apply Exists.intro; refine ⟨fun g => ?_, ?_⟩; (((fail))); go_big_quiet_on; clear hne hR R hF F)) | (apply OrdC.wpLex_blk rfl rfl; (focus (intro x hx; go_simp; exact ⟨rfl, rfl⟩)); intro B hB; simp only [Act.put, blkVal, List.setIfInBounds_toArray, List.set_cons_zero, List.set_cons_succ]))
    refine OrdC.wpLex_nil ?_
    intro w2 hw2
    have J := Lib.hid (K1.out.trans (((Below.refl w1.heap.size w1).drew.trans hw2.below).mono K1.out.size))
    clear hw2
    go_wp2_with fail
    go_ret
    exact ⟨rfl, J.out⟩
end Go.Proofs.YtpjafbinlklojaaDoor
