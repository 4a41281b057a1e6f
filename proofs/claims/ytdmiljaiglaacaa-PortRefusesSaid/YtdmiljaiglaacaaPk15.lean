/- Joined texts: PortV, View, PortT. -/
import Derived.Test.YtdmiljaiglaacaaPk12
import Derived.Test.YtdmiljaiglaacaaPk14
import Derived.Test.YtdmiljaiglaacaaPk11
import Derived.Deep.DeepCutAuto
import Derived.Test.YtdmiljaiglaacaaPk2
import Derived.ProofKit
import Derived.OpenShut
import Derived.Deep.Slices
import Derived.SizedLaws
import Derived.ChangeArms
import Derived.Test.YtdmiljaiglaacaaPk10
/- The walk of layer 29's second law. -/
namespace Go.Proofs.Ytdmiljaiglaacaa
open Go.RowKit Go.Maps

namespace OrdC
variable {fr : Oper → Nat} {Ψ : Oper → Out → Prop} {P : Program} {ops : Array Oper} {Q : Exit → Act → World → Prop} {w0 : World} {E : Env} {tail rest : List Oper} {o : Oper} {a : Act}
theorem lex_callg (hs : sp fr o = 2) (hw : Region.wanted o (yielded ops a.tmps) = true) (f : FuncId) (args : Array Value) (hrun : ∀ x, Cl w0 (E.only ops o) x → (execOp a.eval o).run P x = .ok (.enter f args) x)
    (hc : ∀ x, Cl w0 (E.only ops o) x → Calls P f args x fun e y => ∃ ω : Out, e = .returned ω.v ∧ Below x.heap.size x y ∧ (ω.got = true → w0.heap.size ≤ ω.B ∧ y.heap[ω.B]? = some ω.obj) ∧ Ψ o ω)
    (h : ∀ ω : Out, Ψ o ω → wpLex fr Ψ P ops Q w0 tail rest (if ω.got then E.upd o.dst ω.B ω.obj else E) (a.put o.dst ω.v)) : wpLex fr Ψ P ops Q w0 tail (o :: rest) E a :=
  fun _ => ⟨.call, ⟨hs, hw, fun x hx => ⟨f, args, hrun x hx, hc x hx⟩⟩, fun ω hω => h ω hω.1⟩
end OrdC
theorem wants_told (t : Th) (x : World) (w0 : World) : Calls Try.prog 7 #[tv t] x fun e y => ∃ ω : OrdC.Out, e = .returned ω.v ∧ Below x.heap.size x y ∧ (ω.got = true → w0.heap.size ≤ ω.B ∧ y.heap[ω.B]? = some ω.obj) ∧ ∃ A c, ω.v = .slice A t.wants.length c := by
  refine (wants_any t x).mono ?_
  rintro e y ⟨u, rfl, hr, hb⟩
  obtain ⟨A, c, rfl, _⟩ := hr.reads
  exact ⟨⟨0, _, .map #[] 0, false⟩, rfl, hb, (fun h => by cases h), A, c, rfl⟩
/-- What lies there all along. -/
structure Stuff (y : World) (b4 b6 b7 : Nat) (t o : Th) (n : Int) (tbase tb m k : Nat) (utab : Nat → Value) : Prop where
  t4 : ThBox y b4 t
  t7 : ThBox y b7 o
  t6 : y.heap[b6]? = some (.cells #[.int .i64 n] 3 (0, 0))
  tab : TabOf y tbase tb m k utab []
theorem Stuff.grow {y z : World} {b4 b6 b7 : Nat} {t o : Th} {n : Int} {tbase tb m k : Nat} {utab : Nat → Value} (h : Stuff y b4 b6 b7 t o n tbase tb m k utab) (hb : Below y.heap.size y z) : Stuff z b4 b6 b7 t o n tbase tb m k utab :=
  ⟨(hb.block _ h.t4.lt).trans h.t4, (hb.block _ h.t7.lt).trans h.t7, (hb.block _ (Array.getElem?_eq_some_iff.1 h.t6).1).trans h.t6, h.tab.grow hb⟩
theorem two_things {w : World} {B : Nat} {a b : Th} (h : w.heap[B]? = some (.cells #[.int .u8 a.kind, .int .i64 a.row, .int .i64 a.n, .string (bs a.s), .int .i64 a.v.tag, .string (bs a.v.text), .int .u64 a.v.bits, .string (bs a.v.cls), .string (bs a.v.name), .string (bs a.v.desc), .int .u8 b.kind, .int .i64 b.row, .int .i64 b.n, .string (bs b.s), .int .i64 b.v.tag, .string (bs b.v.text), .int .u64 b.v.bits, .string (bs b.v.cls), .string (bs b.v.name), .string (bs b.v.desc)] 30 (0, 0))) : Ths w (some ⟨B, 0, none⟩) 2 [a, b] := by
  refine ⟨by simp, fun _ => ⟨B, 0, rfl, (Array.getElem?_eq_some_iff.1 h).1, fun j t ht => ?_⟩⟩
  have hc := (blk_facts h).1
  match j, ht with
  | 0, ht =>
    cases ht
    exact ⟨⟨hc 0, hc 1, hc 2, hc 3⟩, hc 4, hc 5, hc 6, hc 7, hc 8, hc 9⟩
  | 1, ht =>
    cases ht
    exact ⟨⟨hc 10, hc 11, hc 12, hc 13⟩, hc 14, hc 15, hc 16, hc 17, hc 18, hc 19⟩
  | j + 2, ht => simp at ht
set_option maxRecDepth 100000 in
set_option maxHeartbeats 8000000 in
theorem law2_any (t o : Th) (row n : Int) (w : World) (hft : t.fits) (hfo : o.fits) (hrw : I64 row) :
    Calls Try.prog 4 #[tv t, .int .i64 row, .int .i64 n, tv o] w fun e w' => e = .returned (.bool true) ∧ Below w.heap.size w w' := by
  have HFT := Lib.hid hft
  have HFO := Lib.hid hfo
  clear hft hfo
  unfold tv tcells
  go_enter Try.func4, Try.ntmps4
  go_upto_region 1 with fail
  rw [show ((w.alloc (.cells #[.int .u8 t.kind, .int .i64 t.row, .int .i64 t.n, .string (bs t.s), .int .i64 t.v.tag, .string (bs t.v.text), .int .u64 t.v.bits, .string (bs t.v.cls), .string (bs t.v.name), .string (bs t.v.desc)] 30)).alloc (.cells #[.int .i64 n] 3)).alloc (.cells #[.int .u8 o.kind, .int .i64 o.row, .int .i64 o.n, .string (bs o.s), .int .i64 o.v.tag, .string (bs o.v.text), .int .u64 o.v.bits, .string (bs o.v.cls), .string (bs o.v.name), .string (bs o.v.desc)] 30) = ((w.alloc (tobj t)).alloc (.cells #[.int .i64 n] 3)).alloc (tobj o) from rfl]
  obtain ⟨W, hW⟩ : ∃ W, W = ((w.alloc (tobj t)).alloc (.cells #[.int .i64 n] 3)).alloc (tobj o) := ⟨_, rfl⟩
  have k1 := (Below.refl w.heap.size w).alloc (Nat.le_refl _) (tobj t)
  have k2 := (Below.refl (w.alloc (tobj t)).heap.size (w.alloc (tobj t))).alloc (Nat.le_refl _) (.cells #[.int .i64 n] 3)
  have k3 := (Below.refl ((w.alloc (tobj t)).alloc (.cells #[.int .i64 n] 3)).heap.size ((w.alloc (tobj t)).alloc (.cells #[.int .i64 n] 3))).alloc (Nat.le_refl _) (tobj o)
  have s1 : (w.alloc (tobj t)).heap.size = w.heap.size + 1 := World.size_alloc ..
  have s2 : ((w.alloc (tobj t)).alloc (.cells #[.int .i64 n] 3)).heap.size = w.heap.size + 2 := by rw [World.size_alloc, s1]
  have q4 : ThBox W w.heap.size t := by rw [hW]; exact (k3.block _ (by omega)).trans ((k2.block _ (by omega)).trans (heap_alloc_new _ _))
  have q6 : W.heap[w.heap.size + 1]? = some (.cells #[.int .i64 n] 3 (0, 0)) := by rw [hW]; exact (k3.block _ (by omega)).trans (by rw [← s1]; exact heap_alloc_new _ _)
  have q7 : ThBox W (w.heap.size + 2) o := by rw [hW, ← s2]; exact heap_alloc_new _ _
  have KW := Lib.hid (show Below w.heap.size w W from by rw [hW]; exact k1.trans ((k2.mono (by omega)).trans (k3.mono (by omega))))
  have Q4 := Lib.hid q4
  have Q6 := Lib.hid q6
  have Q7 := Lib.hid q7
  rw [← hW]
  clear hW k1 k2 k3 s1 s2 q4 q6 q7
  go_wp2_with fail
  refine (fixed_any W).mono ?_
  rintro e w1 ⟨rfl, hb1⟩
  have K1 := Lib.hid (KW.out.trans (hb1.mono KW.out.size))
  have R4 := Lib.hid (show ThBox w1 w.heap.size t from (hb1.block _ Q4.out.lt).trans Q4.out)
  have R7 := Lib.hid (show ThBox w1 (w.heap.size + 2) o from (hb1.block _ Q7.out.lt).trans Q7.out)
  have R6 := Lib.hid ((hb1.block _ (Array.getElem?_eq_some_iff.1 Q6.out).1).trans Q6.out)
  clear hb1 Q4 Q6 Q7 KW
  obtain ⟨⟨c0, c1, c2, c3⟩, c4, c5, c6, c7, c8, c9⟩ := R4.out.at_
  obtain ⟨⟨d0, d1, d2, d3⟩, d4, d5, d6, d7, d8, d9⟩ := R7.out.at_
  have z4 := R4.out.lt
  have z7 := R7.out.lt
  have k2 := Lib.hid ((Below.refl w1.heap.size w1).alloc (Nat.le_refl _) (.cells #[.int .u8 t.kind, .int .i64 t.row, .int .i64 t.n, .string (bs t.s), .int .i64 t.v.tag, .string (bs t.v.text), .int .u64 t.v.bits, .string (bs t.v.cls), .string (bs t.v.name), .string (bs t.v.desc), .int .u8 o.kind, .int .i64 o.row, .int .i64 o.n, .string (bs o.s), .int .i64 o.v.tag, .string (bs o.v.text), .int .u64 o.v.bits, .string (bs o.v.cls), .string (bs o.v.name), .string (bs o.v.desc)] 30))
  have HF := Lib.hid (tfew_any (some ⟨w1.heap.size, 0, none⟩) 2 [t, o] (w1.alloc (.cells #[.int .u8 t.kind, .int .i64 t.row, .int .i64 t.n, .string (bs t.s), .int .i64 t.v.tag, .string (bs t.v.text), .int .u64 t.v.bits, .string (bs t.v.cls), .string (bs t.v.name), .string (bs t.v.desc), .int .u8 o.kind, .int .i64 o.row, .int .i64 o.n, .string (bs o.s), .int .i64 o.v.tag, .string (bs o.v.text), .int .u64 o.v.bits, .string (bs o.v.cls), .string (bs o.v.name), .string (bs o.v.desc)] 30)) (two_things (heap_alloc_new _ _)) (by simp) (fun v hv => by simp at hv; rcases hv with rfl | rfl; exact HFT.out; exact HFO.out))
  go_wp2_with fail
  refine HF.out.mono ?_
  rintro e w2 ⟨rfl, hb2⟩
  have B2 := Lib.hid (k2.out.trans (hb2.mono k2.out.size))
  have K2 := Lib.hid (K1.out.trans (B2.out.mono K1.out.size))
  have S4 := Lib.hid (show ThBox w2 w.heap.size t from (B2.out.block _ R4.out.lt).trans R4.out)
  have S7 := Lib.hid (show ThBox w2 (w.heap.size + 2) o from (B2.out.block _ R7.out.lt).trans R7.out)
  have S6 := Lib.hid ((B2.out.block _ (Array.getElem?_eq_some_iff.1 R6.out).1).trans R6.out)
  clear hb2 B2 k2 HF R4 R6 R7 K1 c0 c1 c2 c3 c4 c5 c6 c7 c8 c9 d0 d1 d2 d3 d4 d5 d6 d7 d8 d9 z4 z7
  cases f1 : Th.few [t, o] with
  | false =>
    go_wp2_with fail
    go_ret
    exact ⟨rfl, K2.out⟩
  | true =>
    clear f1
    obtain ⟨⟨c0, c1, c2, c3⟩, c4, c5, c6, c7, c8, c9⟩ := S4.out.at_
    have fz := S4.out.free.1.2.1
    have z4 := S4.out.lt
    have HNV := Lib.hid (norm_val t.row)
    go_upto_region 6 with fail
    rw [HNV.out]
    have g3 := setCell_turned w2 w.heap.size 1 (.int .i64 (t.row % 64))
    have Q4 := Lib.hid (show ThBox (w2.setCell ⟨w.heap.size, 1, none⟩ (.int .i64 (t.row % 64))) w.heap.size t.norm from heap_set (o := 1) S4.out (.int .i64 (t.row % 64)))
    have Q7 := Lib.hid (show ThBox (w2.setCell ⟨w.heap.size, 1, none⟩ (.int .i64 (t.row % 64))) (w.heap.size + 2) o from (g3.block _ S7.out.lt (fun e => by have := Option.some.inj e; omega)).trans S7.out)
    have Q6 := Lib.hid ((g3.block (w.heap.size + 1) (Array.getElem?_eq_some_iff.1 S6.out).1 (fun e => by have := Option.some.inj e; omega)).trans S6.out)
    have K3 := Lib.hid (K2.out.setCell (p := ⟨w.heap.size, 1, none⟩) (Nat.le_refl _) (.int .i64 (t.row % 64)))
    clear g3 S4 S6 S7 K2 c0 c1 c2 c3 c4 c5 c6 c7 c8 c9 fz z4 HNV
    generalize w2.setCell ⟨w.heap.size, 1, none⟩ (.int .i64 (t.row % 64)) = w3 at *
    have hrow := norm_row t
    have HFT2 := Lib.hid (show t.norm.fits from ⟨HFT.out.1, ⟨by have := hrow.1; omega, by have := hrow.2; omega⟩, HFT.out.2.2⟩)
    clear HFT
    generalize t.norm = t at *
    have HOF := Lib.hid (of_any none 0 [] w3 (Vals.nil _ _ _) (by simp) (fun _ => rfl) (fun v hv => by cases hv))
    go_wp2_with fail
    refine HOF.out.mono ?_
    rintro e w4 ⟨⟨h, _⟩ | ⟨_, tb, m, k, utab, rfl, hT⟩, hb4⟩
    · exact absurd rfl h
    rw [show Pv.ord [] [] = [] from rfl] at hT
    have U4 := Lib.hid (show Stuff w4 w.heap.size (w.heap.size + 1) (w.heap.size + 2) t o n w3.heap.size tb m k utab from ⟨(hb4.block _ Q4.out.lt).trans Q4.out, (hb4.block _ Q7.out.lt).trans Q7.out, (hb4.block _ (Array.getElem?_eq_some_iff.1 Q6.out).1).trans Q6.out, hT⟩)
    have K4 := Lib.hid (K3.out.trans (hb4.mono K3.out.size))
    clear hb4 hT HOF Q4 Q6 Q7 K3
    go_wp2_with fail
    refine (writer_any (some ⟨tb, 0, none⟩) w4).mono ?_
    rintro e w5 ⟨rfl, h5, hb5⟩
    have U5 := Lib.hid (U4.out.grow hb5)
    have K5 := Lib.hid (K4.out.trans (hb5.mono K4.out.size))
    have HTA := Lib.hid (show ∀ y, Below w4.heap.size w5 y → TabOf y w3.heap.size tb m k utab [] from fun y hy => U4.out.tab.grow (hb5.trans hy))
    have hr0 : ∀ t, (R0 t).length ≤ 1000000 := fun t => by simp [R0]
    have HR0 := Lib.hid hr0
    have hlt := lthr_any t (R := R0) h5 HTA.out hr0 (fun v hv => by cases hv) HFT2.out
    obtain ⟨he1, ht1⟩ := refuse_write (R := R0) hrow.1 hrow.2
    rw [ht1, he1] at hlt
    have HLT := Lib.hid hlt
    unfold tv tcells at HLT
    obtain ⟨⟨c0, c1, c2, c3⟩, c4, c5, c6, c7, c8, c9⟩ := U5.out.t4.at_
    have z4 := U5.out.t4.lt
    have B5 := Lib.hid hb5
    clear hlt he1 ht1 h5 hb5 hr0
    go_wp2_with fail
    refine HLT.out.mono ?_
    rintro e w6 ⟨rfl, us6, h6, us0, rfl, f6⟩
    have BY6 := Lib.hid (B5.out.trans f6.below)
    have P6 := Lib.hid h6
    have k7 := Lib.hid ((Below.refl w6.heap.size w6).alloc (Nat.le_refl _) (tobj t))
    have q7 := Lib.hid (th_new w6 t)
    have BY7 := Lib.hid (BY6.out.trans (k7.out.mono BY6.out.size))
    have U7 := Lib.hid (U4.out.grow BY7.out)
    have P7 := Lib.hid (P6.out.grow k7.out)
    clear h6 f6 HLT c0 c1 c2 c3 c4 c5 c6 c7 c8 c9 z4 P6
    unfold tv tcells
    go_upto_region 9 with fail
    rw [show w6.alloc (.cells #[.int .u8 t.kind, .int .i64 t.row, .int .i64 t.n, .string (bs t.s), .int .i64 t.v.tag, .string (bs t.v.text), .int .u64 t.v.bits, .string (bs t.v.cls), .string (bs t.v.name), .string (bs t.v.desc)] 30) = w6.alloc (tobj t) from rfl]
    clear k7
    generalize w6.alloc (tobj t) = w7 at *
    obtain ⟨⟨c0, c1, c2, c3⟩, c4, c5, c6, c7, c8, c9⟩ := q7.out.at_
    obtain ⟨⟨d0, d1, d2, d3⟩, d4, d5, d6, d7, d8, d9⟩ := U7.out.t4.at_
    have zA : w6.heap.size < w7.drew.heap.size := q7.out.lt
    have zB : w.heap.size < w7.drew.heap.size := U7.out.t4.lt
    have HEQ := Lib.hid (fun z => (eq_thing t t z).trans (by rw [decide_eq_true rfl]))
    unfold tv tcells at HEQ
    have heq := HEQ.out
    obtain ⟨wl, hwl⟩ : ∃ wl, wl = t.wants.length := ⟨_, rfl⟩
    have hcs : ((if t.wants = [] then (0 : Int) else 8) = 0 ∧ decide (0 < wl) = false) ∨ ((if t.wants = [] then (0 : Int) else 8) = 8 ∧ decide (0 < wl) = true) := by
      by_cases h : t.wants = []
      · exact .inl ⟨if_pos h, by rw [hwl, h]; rfl⟩
      · exact .inr ⟨if_neg h, by rw [hwl]; exact decide_eq_true (List.length_pos_iff.2 h)⟩
    have HWL := Lib.hid hwl
    generalize hER : (if t.wants = [] then (0 : Int) else 8) = er at *
    have HERR := Lib.hid (fun (y : World) (hy : Below w7.drew.heap.size w7.drew y) => err_any (P7.out.grow ((Below.refl _ _).drew.trans hy)))
    have HWT := Lib.hid (fun (x w0 : World) => wants_told t x w0)
    unfold tv tcells at HWT
    rw [← hwl] at HWT
    clear hER hwl
    go_cut [61] (fun s61 wx => s61 = .bool false ∧ Below w7.heap.size w7 wx)
    case first =>
      as_aux_lemma =>
      refine OrdC.wp_region_ord (fr := fun o => if o.dst == some 57 then 2 else 0) (Ψ := fun o ω => ∃ A c, ω.v = .slice A wl c) 19 (by kernel_rfl) (by kernel_rfl) (fun _ _ d _ _ h => by cases d <;> exact h) ?_
      try simp only [List.take_succ_cons, List.take_zero, List.drop_succ_cons, List.drop_zero]
      repeat (first | (refine OrdC.wpLex_skip rfl rfl ?_; simp only [Act.put, List.setIfInBounds_toArray, List.set_cons_zero, List.set_cons_succ]) | (refine OrdC.wpLex_fix rfl rfl ?_; intro F hF R hR hne K hK; go_big_quiet_op; first | (go_big_quiet_on; clear hne hR R hF F) | (apply Exists.intro; refine ⟨fun g => ?_, ?_⟩; (((first | (go_at_call 14; exact GrE.same ((HERR.out _ (GrE.below g)).mono fun _ _ h => ⟨h.1, h.2.symm⟩)) | (go_simp; (repeat (simp only [GrE.cell g _ _ zA, GrE.cell g _ _ zB]; go_simp)); first | exact ⟨rfl, rfl⟩ | rfl)))); go_big_quiet_on; clear hne hR R hF F)) | (apply OrdC.wpLex_blk rfl rfl; (focus (intro x hx; go_simp; exact ⟨rfl, rfl⟩)); intro B hB; simp only [Act.put, blkVal, List.setIfInBounds_toArray, List.set_cons_zero, List.set_cons_succ]))
      refine OrdC.lex_callg rfl rfl 7 _ (fun x hx => by go_simp) (fun x hx => HWT.out x _) ?_
      rintro ω ⟨A7, c7', hω⟩
      rw [hω]
      simp only [Act.put, List.setIfInBounds_toArray, List.set_cons_zero, List.set_cons_succ]
      rcases hcs with ⟨rfl, p⟩ | ⟨rfl, p⟩
      all_goals
        try simp only [List.take_succ_cons, List.take_zero, List.drop_succ_cons, List.drop_zero]
        repeat (first | (refine OrdC.wpLex_skip rfl rfl ?_; simp only [Act.put, List.setIfInBounds_toArray, List.set_cons_zero, List.set_cons_succ]) | (refine OrdC.wpLex_fix rfl rfl ?_; intro F hF R hR hne K hK; go_big_quiet_op; first | (go_big_quiet_on; clear hne hR R hF F) | (apply Exists.intro; refine ⟨fun g => ?_, ?_⟩; (((fail))); go_big_quiet_on; clear hne hR R hF F)) | (apply OrdC.wpLex_blk rfl rfl; (focus (intro x hx; go_simp; exact ⟨rfl, rfl⟩)); intro B hB; simp only [Act.put, blkVal, List.setIfInBounds_toArray, List.set_cons_zero, List.set_cons_succ]))
        refine OrdC.wpLex_nil ?_
        intro w9 hw9
        have hb9 := (Below.refl w7.heap.size w7).drew.trans hw9.below
        go_wp2_with fail
        go_meet
        exact ⟨rfl, hb9⟩
    case rest =>
    as_aux_lemma =>
    obtain ⟨rfl, hb9⟩ := hcut
    obtain ⟨w9, rfl⟩ : ∃ w9, w9 = wc := ⟨_, rfl⟩
    have BY9 := Lib.hid (BY7.out.trans (hb9.mono BY7.out.size))
    clear hb9 c0 c1 c2 c3 c4 c5 c6 c7 c8 c9 d0 d1 d2 d3 d4 d5 d6 d7 d8 d9 zA zB heq HEQ HERR HWT hcs P7 U7 q7 BY7 BY6
    have HQ := Lib.hid (reader_any (some ⟨tb, 0, none⟩) none 0 [] w9 (NRows.nil _ _ _) (fun _ => rfl) (by simp) (fun l hl => by cases hl))
    rw [List.length_nil] at HQ
    go_wp2_with fail
    refine HQ.out.mono ?_
    rintro e w10 ⟨rfl, ⟨us10, h10⟩, hb10⟩
    have Q10 := Lib.hid (h10.congr (R' := R0) (fun t ht => by simp [R0]))
    have BY10 := Lib.hid (BY9.out.trans (hb10.mono BY9.out.size))
    have U10 := Lib.hid (U4.out.grow BY10.out)
    have B10 := Lib.hid hb10
    have hlt := lthr_any t (R := R0) Q10.out (fun y hy => U4.out.tab.grow (BY10.out.trans (hy.mono BY9.out.size))) HR0.out (fun v hv => by cases hv) HFT2.out
    obtain ⟨r1, r2, r3⟩ := refuse_end (t := t) (R := R0) hrow.1 hrow.2 rfl
    rw [r1, r2] at hlt
    generalize (stepTh true [] R0 0 t).2.2 = ty at hlt r3
    have HLT := Lib.hid hlt
    have HR3 := Lib.hid r3
    unfold tv tcells at HLT
    obtain ⟨⟨c0, c1, c2, c3⟩, c4, c5, c6, c7, c8, c9⟩ := U10.out.t4.at_
    have z4 := U10.out.t4.lt
    clear hlt r1 r2 r3 h10 hb10 HQ
    go_wp2_with fail
    refine HLT.out.mono ?_
    rintro e w11 ⟨rfl, us11, h11, us0, rfl, f11⟩
    have k12 := Lib.hid ((Below.refl w11.heap.size w11).alloc (Nat.le_refl _) (tobj ty))
    have q12 := Lib.hid (th_new w11 ty)
    have Q12 := Lib.hid (h11.grow k12.out)
    have B12 := Lib.hid (B10.out.trans (f11.below.trans (k12.out.mono (Nat.le_trans B10.out.size f11.below.size))))
    have BY12 := Lib.hid (BY9.out.trans (B12.out.mono BY9.out.size))
    have U12 := Lib.hid (U4.out.grow BY12.out)
    clear h11 f11 HLT c0 c1 c2 c3 c4 c5 c6 c7 c8 c9 z4 U10 Q10 B10 BY10
    unfold tv tcells
    go_upto_region 13 with fail
    rw [show w11.alloc (.cells #[.int .u8 ty.kind, .int .i64 ty.row, .int .i64 ty.n, .string (bs ty.s), .int .i64 ty.v.tag, .string (bs ty.v.text), .int .u64 ty.v.bits, .string (bs ty.v.cls), .string (bs ty.v.name), .string (bs ty.v.desc)] 30) = w11.alloc (tobj ty) from rfl]
    clear k12
    generalize w11.alloc (tobj ty) = w12 at *
    obtain ⟨⟨c0, c1, c2, c3⟩, c4, c5, c6, c7, c8, c9⟩ := q12.out.at_
    obtain ⟨⟨d0, d1, d2, d3⟩, d4, d5, d6, d7, d8, d9⟩ := U12.out.t4.at_
    have zA : w11.heap.size < w12.heap.size := q12.out.lt
    have zB : w.heap.size < w12.heap.size := U12.out.t4.lt
    have HER := Lib.hid (err_any Q12.out)
    go_cut [80] (fun s80 wx => s80 = .bool false ∧ wx = w12)
    case first =>
      as_aux_lemma =>
      by_cases hk : t.kind % 7 = 6
      · have hq : ((t.kind : Int) % 7 != 6) = false := by simp; omega
        go_wp2_with fail
        refine HER.out.mono ?_
        rintro e z ⟨rfl, rfl⟩
        go_wp2_with fail
        go_meet
        exact ⟨rfl, rfl⟩
      · have hq : ((t.kind : Int) % 7 != 6) = true := by simp; omega
        have hty := HR3.out hk
        subst hty
        have heq := fun z => (eq_thing ty ty z).trans (by rw [decide_eq_true rfl])
        unfold tv tcells at heq
        go_wp2_with fail
        refine HER.out.mono ?_
        rintro e z ⟨rfl, rfl⟩
        go_wp2_with fail
        go_meet
        exact ⟨rfl, rfl⟩
    case rest =>
    as_aux_lemma =>
    obtain ⟨rfl, hw12⟩ := hcut
    rw [hw12]
    clear hw12
    clear c0 c1 c2 c3 c4 c5 c6 c7 c8 c9 d0 d1 d2 d3 d4 d5 d6 d7 d8 d9 zA zB HER HR3 q12
    obtain ⟨tr, htr⟩ := Int.eq_ofNat_of_zero_le hrow.1
    have htr64 : tr < 64 := by have := hrow.2; omega
    have i1 : (tr : Int) < 64 := by omega
    have i2 : decide (tr < 64) = true := decide_eq_true htr64
    have hmk := run_make_row' (P := Try.prog) 42 45 (.slice none 0 0) 24 Try.underlying42 infoInts rfl .i64 .i64 64 (by omega) (by omega)
    rw [show (((64 : Nat)) : Int) = 64 from rfl] at hmk
    have k13 := Lib.hid ((Below.refl w12.heap.size w12).alloc (Nat.le_refl _) (.cells (madeCells #[.slice none 0 0] 64) 45))
    have M13 := Lib.hid (World.rowIs_made w12 (.slice none 0 0) 64 45)
    have s13 : (w12.alloc (.cells (madeCells #[.slice none 0 0] 64) 45)).heap.size = w12.heap.size + 1 := World.size_alloc ..
    have hM := M13.out.lt
    go_upto_region 16 with fail
    have U13 := Lib.hid (U12.out.grow k13.out)
    obtain ⟨⟨d0, d1, d2, d3⟩, d4, d5, d6, d7, d8, d9⟩ := U13.out.t4.at_
    have zB : w.heap.size < (w12.alloc (.cells (madeCells #[.slice none 0 0] 64) 45)).heap.size := U13.out.t4.lt
    have e6 : (w12.alloc (.cells (madeCells #[.slice none 0 0] 64) 45)).cell? ⟨w.heap.size + 1, 0, none⟩ = some (.int .i64 n) := (blk_facts U13.out.t6).1 0
    have zC : w.heap.size + 1 < (w12.alloc (.cells (madeCells #[.slice none 0 0] 64) 45)).heap.size := (Array.getElem?_eq_some_iff.1 U13.out.t6).1
    have m1 := M13.out.cell htr64
    have m2 := M13.out.frozen tr
    clear hmk
    generalize w12.alloc (.cells (madeCells #[.slice none 0 0] 64) 45) = w13 at *
    go_upto_region 17 with fail
    have k14 := Lib.hid (show Below w12.heap.size w12 ((w13.setCell ⟨w12.heap.size, tr, none⟩ (.slice (some ⟨w12.heap.size + 1, 0, none⟩) 1 1)).alloc (.cells #[.int .i64 n] 3)) from (k13.out.setCell (p := ⟨w12.heap.size, tr, none⟩) (Nat.le_refl _) _).alloc (by simp; omega) _)
    have row14 : ((w13.setCell ⟨w12.heap.size, tr, none⟩ (.slice (some ⟨w12.heap.size + 1, 0, none⟩) 1 1)).alloc (.cells #[.int .i64 n] 3)).rowIs w12.heap.size 45 64 (fun j => if j = tr then .slice (some ⟨w12.heap.size + 1, 0, none⟩) 1 1 else .slice none 0 0) := (M13.out.set tr _).alloc _
    have hnew : ((w13.setCell ⟨w12.heap.size, tr, none⟩ (.slice (some ⟨w12.heap.size + 1, 0, none⟩) 1 1)).alloc (.cells #[.int .i64 n] 3)).heap[w12.heap.size + 1]? = some (.cells #[.int .i64 n] 3 (0, 0)) := by
      have := heap_alloc_new (w13.setCell ⟨w12.heap.size, tr, none⟩ (.slice (some ⟨w12.heap.size + 1, 0, none⟩) 1 1)) (.cells #[.int .i64 n] 3)
      rw [show (w13.setCell ⟨w12.heap.size, tr, none⟩ (.slice (some ⟨w12.heap.size + 1, 0, none⟩) 1 1)).heap.size = w12.heap.size + 1 by simp; omega] at this
      exact this
    generalize (w13.setCell ⟨w12.heap.size, tr, none⟩ (.slice (some ⟨w12.heap.size + 1, 0, none⟩) 1 1)).alloc (.cells #[.int .i64 n] 3) = w14 at *
    have sub14 : ∀ t, t < 64 → ISub w14 0 (if t = tr then .slice (some ⟨w12.heap.size + 1, 0, none⟩) 1 1 else .slice none 0 0) (upd R0 tr [n] t) := fun t ht => by
      unfold upd R0
      by_cases e : t = tr
      · rw [if_pos e, if_pos e]
        exact ⟨_, _, rfl, ⟨Nat.le_refl _, fun _ => ⟨w12.heap.size + 1, 0, rfl, (Array.getElem?_eq_some_iff.1 hnew).1, fun j x hj => by
          match j, hj with
          | 0, hj => cases hj; exact (blk_facts hnew).1 0
          | j + 1, hj => simp at hj⟩⟩, (fun e => by cases e), fun _ _ _ _ => Nat.zero_le _⟩
      · rw [if_neg e, if_neg e]
        exact ISub.nil _ _
    have HL1 := Lib.hid (show ∀ t, (upd R0 tr [n] t).length ≤ 1000000 from upd_len HR0.out (by simp))
    have HQ := Lib.hid (reader_any (some ⟨tb, 0, none⟩) (some ⟨w12.heap.size, 0, none⟩) 64 ((List.range 64).map (upd R0 tr [n])) w14 (rows_nrows row14 sub14) (fun e => by cases e) (by simp) (fun l hl => by
      obtain ⟨t, _, rfl⟩ := List.mem_map.1 hl
      exact HL1.out t))
    rw [List.length_map, List.length_range] at HQ
    have BY14 := Lib.hid (BY12.out.trans (k14.out.mono BY12.out.size))
    clear row14 hnew sub14 k13 M13 s13 hM U13 d0 d1 d2 d3 d4 d5 d6 d7 d8 d9 zB zC e6 m1 m2
    go_wp2_with fail
    refine HQ.out.mono ?_
    rintro e w15 ⟨rfl, ⟨us15, h15⟩, hb15⟩
    have R15 := Lib.hid (h15.congr (R' := upd R0 tr [n]) (fun t ht => range_map_getD ht))
    have BY15 := Lib.hid (BY14.out.trans (hb15.mono BY14.out.size))
    have k15 := Lib.hid (k14.out.trans (hb15.mono k14.out.size))
    have U15 := Lib.hid (U4.out.grow BY15.out)
    have hlt := lthr_any t (R := upd R0 tr [n]) R15.out (fun y hy => U4.out.tab.grow (BY15.out.trans (hy.mono BY14.out.size))) HL1.out (fun v hv => by cases hv) HFT2.out
    have HE5 := Lib.hid (show t.wants ≠ [] → ¬ ((t.kind % 7 = 2 ∨ t.kind % 7 = 4) ∧ n = 0) → (stepTh true [] (upd R0 tr [n]) 0 t).2.1 = 5 from fun h1 h2 => refuse_lack hrow.1 hrow.2 (by rw [htr, Int.toNat_natCast]; unfold upd; rw [if_pos rfl]) h1 h2)
    generalize (stepTh true [] (upd R0 tr [n]) 0 t).1 = R16 at hlt
    generalize (stepTh true [] (upd R0 tr [n]) 0 t).2.2 = t16 at hlt
    generalize (stepTh true [] (upd R0 tr [n]) 0 t).2.1 = e16 at hlt HE5
    have HLT := Lib.hid hlt
    unfold tv tcells at HLT
    obtain ⟨⟨c0, c1, c2, c3⟩, c4, c5, c6, c7, c8, c9⟩ := U15.out.t4.at_
    have z4 := U15.out.t4.lt
    have HTR := Lib.hid htr
    clear hlt h15 HQ htr
    go_wp2_with fail
    refine HLT.out.mono ?_
    rintro e w16 ⟨rfl, us16, h16, us0, rfl, f16⟩
    have R16' := Lib.hid h16
    have BY16 := Lib.hid (BY15.out.trans (f16.below.mono BY14.out.size))
    have k16 := Lib.hid (k15.out.trans (f16.below.mono k14.out.size))
    have U16 := Lib.hid (U4.out.grow BY16.out)
    clear h16 f16 HLT c0 c1 c2 c3 c4 c5 c6 c7 c8 c9 z4 U15 BY15 BY14 R15 hb15 k14 k15
    obtain ⟨⟨c0, c1, c2, c3⟩, c4, c5, c6, c7, c8, c9⟩ := U16.out.t4.at_
    have z4 := U16.out.t4.lt
    have e6 : w16.cell? ⟨w.heap.size + 1, 0, none⟩ = some (.int .i64 n) := (blk_facts U16.out.t6).1 0
    have zC := (Array.getElem?_eq_some_iff.1 U16.out.t6).1
    unfold tv tcells
    go_upto_region 19 with fail
    have HWN := Lib.hid (wants_any t w16)
    unfold tv tcells at HWN
    go_cut [17] (fun s17 wx => ∃ bad : Bool, s17 = .bool bad ∧ (bad = true → e16 = 5) ∧ Below w16.heap.size w16 wx)
    case first =>
      as_aux_lemma =>
      go_wp2_with fail
      refine HWN.out.mono ?_
      rintro e w17 ⟨u, rfl, hr17, hb17⟩
      obtain ⟨A17, c17, rfl, hv17, hj17⟩ := hr17.reads
      have HB17 := Lib.hid hb17
      have V4 := (hb17.block _ U16.out.t4.lt).trans U16.out.t4
      have V6 := (hb17.block _ zC).trans U16.out.t6
      clear hr17 hv17 hj17 hb17 c0 c1 c2 c3 c4 c5 c6 c7 c8 c9 z4 e6 zC
      obtain ⟨⟨c0, c1, c2, c3⟩, c4, c5, c6, c7, c8, c9⟩ := ThBox.at_ (t := t) V4
      have z4 := ThBox.lt (t := t) V4
      have e6 : w17.cell? ⟨w.heap.size + 1, 0, none⟩ = some (.int .i64 n) := (blk_facts V6).1 0
      have zC := (Array.getElem?_eq_some_iff.1 V6).1
      clear V4 V6
      generalize hwl : t.wants = wv at HE5
      by_cases hw0 : wv = []
      · have p : decide (0 < wv.length) = false := by rw [hw0]; rfl
        clear hw0
        go_wp2_with fail
        go_meet
        exact ⟨_, rfl, (fun h => by cases h), HB17.out⟩
      · have p : decide (0 < wv.length) = true := decide_eq_true (List.length_pos_iff.2 hw0)
        by_cases hn0 : n = 0
        · have pn : (n == 0) = true := by simpa using hn0
          by_cases h2 : t.kind % 7 = 2
          · have q2 : ((t.kind : Int) % 7 == 2) = true := by rw [beq_iff_eq]; omega
            clear hw0 hn0
            go_wp2_with fail
            go_meet
            exact ⟨_, rfl, (fun h => by cases h), HB17.out⟩
          · have q2 : ((t.kind : Int) % 7 == 2) = false := by rw [beq_eq_false_iff_ne]; omega
            by_cases h4 : t.kind % 7 = 4
            · have q4 : ((t.kind : Int) % 7 == 4) = true := by rw [beq_iff_eq]; omega
              clear hw0 hn0
              go_wp2_with fail
              go_meet
              exact ⟨_, rfl, (fun h => by cases h), HB17.out⟩
            · have q4 : ((t.kind : Int) % 7 == 4) = false := by rw [beq_eq_false_iff_ne]; omega
              have HE := Lib.hid (HE5.out hw0 (fun h => h.1.elim h2 h4))
              clear hw0 hn0
              go_wp2_with fail
              go_meet
              exact ⟨_, rfl, (fun _ => HE.out), HB17.out⟩
        · have pn : (n == 0) = false := by simpa using hn0
          have HE := Lib.hid (HE5.out hw0 (fun h => hn0 h.2))
          by_cases h2 : t.kind % 7 = 2
          · have q2 : ((t.kind : Int) % 7 == 2) = true := by rw [beq_iff_eq]; omega
            clear hw0 hn0
            go_wp2_with fail
            go_meet
            exact ⟨_, rfl, (fun _ => HE.out), HB17.out⟩
          · have q2 : ((t.kind : Int) % 7 == 2) = false := by rw [beq_eq_false_iff_ne]; omega
            by_cases h4 : t.kind % 7 = 4
            · have q4 : ((t.kind : Int) % 7 == 4) = true := by rw [beq_iff_eq]; omega
              clear hw0 hn0
              go_wp2_with fail
              go_meet
              exact ⟨_, rfl, (fun _ => HE.out), HB17.out⟩
            · have q4 : ((t.kind : Int) % 7 == 4) = false := by rw [beq_eq_false_iff_ne]; omega
              clear hw0 hn0
              go_wp2_with fail
              go_meet
              exact ⟨_, rfl, (fun _ => HE.out), HB17.out⟩
    case rest =>
    as_aux_lemma =>
    obtain ⟨bad, rfl, hbad, hb17⟩ := hcut
    obtain ⟨w17, rfl⟩ : ∃ w17, w17 = wc := ⟨_, rfl⟩
    have BY17 := Lib.hid (BY16.out.trans (hb17.mono BY16.out.size))
    have k17 := Lib.hid (k16.out.trans (hb17.mono k16.out.size))
    have HER := Lib.hid (err_any (R16'.out.grow hb17))
    have HBD := Lib.hid hbad
    clear hb17 hbad c0 c1 c2 c3 c4 c5 c6 c7 c8 c9 z4 e6 zC HWN HE5 U16 BY16 k16 R16'
    go_upto_region 20 with fail
    go_cut [120] (fun s120 wx => s120 = .bool false ∧ wx = w17)
    case first =>
      as_aux_lemma =>
      cases bad with
      | false =>
        go_wp2_with fail
        go_meet
        exact ⟨rfl, rfl⟩
      | true =>
        have h5 := HBD.out rfl
        subst h5
        go_wp2_with fail
        refine HER.out.mono ?_
        rintro e z ⟨rfl, rfl⟩
        go_wp2_with fail
        go_meet
        exact ⟨rfl, rfl⟩
    case rest =>
    as_aux_lemma =>
    obtain ⟨rfl, hw17⟩ := hcut
    rw [hw17]
    clear hw17 HER HBD
    go_wp2_with fail
    refine (writer_any (some ⟨tb, 0, none⟩) w17).mono ?_
    rintro e w18 ⟨rfl, h18, hb18⟩
    have BY18 := Lib.hid (BY17.out.trans (hb18.mono BY17.out.size))
    have k18 := Lib.hid (k17.out.trans (hb18.mono k17.out.size))
    have hlt := lthr_any ⟨0, row, 0, [], Pv.zero⟩ (R := R0) h18 (fun y hy => U4.out.tab.grow (BY18.out.trans (hy.mono BY17.out.size))) HR0.out (fun v hv => by cases hv) ⟨(by show (0 : Nat) < 256; decide), hrw, (by show I64 0; unfold I64; decide), (by simp), (by show Pv.zero.fits; unfold Pv.fits Pv.zero I64; decide)⟩
    rw [write_zero] at hlt
    generalize (stepTh false [] R0 0 ⟨0, row, 0, [], Pv.zero⟩).1 = R19 at hlt
    generalize (stepTh false [] R0 0 ⟨0, row, 0, [], Pv.zero⟩).2.2 = t19 at hlt
    have HLT := Lib.hid hlt
    unfold tv tcells at HLT
    dsimp only [Pv.zero] at HLT
    clear hlt h18 hb18
    go_wp2_with fail
    refine HLT.out.mono ?_
    rintro e w19 ⟨rfl, us19, h19, us0, rfl, f19⟩
    have BY19 := Lib.hid (BY18.out.trans (f19.below.mono BY17.out.size))
    have k19 := Lib.hid (k18.out.trans (f19.below.mono k17.out.size))
    have HER19 := Lib.hid (err_any h19)
    clear h19 f19 HLT
    unfold tv tcells
    go_upto_region 24 with fail
    go_cut [136] (fun s136 wx => s136 = .bool false ∧ wx = w19)
    case first =>
      as_aux_lemma =>
      by_cases h1 : row < 0
      · have p1 : decide (row < 0) = true := decide_eq_true h1
        rw [show pe 0 row true = 1 from by unfold pe; rw [if_pos (.inl h1)]; rfl] at HER19
        clear h1
        go_wp2_with fail
        refine HER19.out.mono ?_
        rintro e z ⟨rfl, rfl⟩
        go_wp2_with fail
        go_meet
        exact ⟨rfl, rfl⟩
      · by_cases h2 : 63 < row
        · have p1 : decide (row < 0) = false := decide_eq_false h1
          have p2 : decide (63 < row) = true := decide_eq_true h2
          rw [show pe 0 row true = 1 from by unfold pe; rw [if_pos (.inr (.inl (by omega)))]; rfl] at HER19
          clear h1 h2
          go_wp2_with fail
          refine HER19.out.mono ?_
          rintro e z ⟨rfl, rfl⟩
          go_wp2_with fail
          go_meet
          exact ⟨rfl, rfl⟩
        · have p1 : decide (row < 0) = false := decide_eq_false h1
          have p2 : decide (63 < row) = false := decide_eq_false h2
          rw [pe_in (by omega) (by omega)] at HER19
          clear h1 h2
          go_wp2_with fail
          refine HER19.out.mono ?_
          rintro e z ⟨rfl, rfl⟩
          go_wp2_with fail
          go_meet
          exact ⟨rfl, rfl⟩
    case rest =>
    as_aux_lemma =>
    obtain ⟨rfl, hw19⟩ := hcut
    rw [hw19]
    clear hw19 HER19
    have HIS := Lib.hid (int_shut 1 ⟨w.heap.size + 1, 0, none⟩ (Q12.out.grow k19.out))
    go_wp2_with fail
    refine HIS.out.mono ?_
    rintro e w20 ⟨rfl, us20, h20, us0, e0, f20⟩
    have BY20 := Lib.hid (BY19.out.trans (f20.below.mono BY9.out.size))
    have U20 := Lib.hid (U4.out.grow BY20.out)
    have hlt := lthr_any o (R := R0) h20 (fun y hy => U4.out.tab.grow (BY20.out.trans (hy.mono BY9.out.size))) HR0.out (fun v hv => by cases hv) HFO.out
    obtain ⟨r1, r2, r3⟩ := refuse_shut (t := o) (R := R0) (rd := true) (O := [])
    rw [r1, r2] at hlt
    generalize (stepTh true [] R0 6 o).2.2 = z at hlt r3
    have HLT := Lib.hid hlt
    have HR3 := Lib.hid r3
    unfold tv tcells at HLT
    obtain ⟨⟨c0, c1, c2, c3⟩, c4, c5, c6, c7, c8, c9⟩ := U20.out.t7.at_
    have z7 := U20.out.t7.lt
    clear hlt r1 r2 r3 h20 f20 HIS e0
    go_wp2_with fail
    refine HLT.out.mono ?_
    rintro e w21 ⟨rfl, us21, h21, us0, e0, f21⟩
    have k22 := Lib.hid ((Below.refl w21.heap.size w21).alloc (Nat.le_refl _) (tobj z))
    have q22 := Lib.hid (th_new w21 z)
    have BY21 := Lib.hid (BY20.out.trans (f21.below.mono BY9.out.size))
    have BY22 := Lib.hid (BY21.out.trans (k22.out.mono BY21.out.size))
    have U22 := Lib.hid (U4.out.grow BY22.out)
    clear h21 f21 HLT e0 c0 c1 c2 c3 c4 c5 c6 c7 c8 c9 z7 U20
    unfold tv tcells
    go_upto_region 28 with fail
    rw [show w21.alloc (.cells #[.int .u8 z.kind, .int .i64 z.row, .int .i64 z.n, .string (bs z.s), .int .i64 z.v.tag, .string (bs z.v.text), .int .u64 z.v.bits, .string (bs z.v.cls), .string (bs z.v.name), .string (bs z.v.desc)] 30) = w21.alloc (tobj z) from rfl]
    clear k22
    generalize w21.alloc (tobj z) = w22 at *
    obtain ⟨⟨c0, c1, c2, c3⟩, c4, c5, c6, c7, c8, c9⟩ := q22.out.at_
    obtain ⟨⟨d0, d1, d2, d3⟩, d4, d5, d6, d7, d8, d9⟩ := U22.out.t7.at_
    have zA : w21.heap.size < w22.heap.size := q22.out.lt
    have zB := U22.out.t7.lt
    clear U22 q22 Q12 U12
    go_wp2_with fail
    refine (int_nil none _).mono ?_
    rintro e z1 ⟨rfl, rfl⟩
    by_cases hk : o.kind % 7 = 6
    · have hq : ((o.kind : Int) % 7 == 6) = true := by rw [beq_iff_eq]; omega
      clear hk
      go_wp2_with fail
      refine (err_nil _).mono ?_
      rintro e z1 ⟨rfl, rfl⟩
      go_wp2_with fail
      refine (end_nil _).mono ?_
      rintro e z1 ⟨rfl, rfl⟩
      go_wp2_with fail
      refine (rows_nil _).mono ?_
      rintro e z1 ⟨rfl, rfl⟩
      go_wp2_with fail
      refine (count_nil _).mono ?_
      rintro e z2 ⟨rfl, hbz⟩
      have KZ := Lib.hid (K4.out.trans ((BY22.out.trans (hbz.mono BY22.out.size)).mono K4.out.size))
      clear hbz
      go_wp2_with fail
      refine (reads_nil _).mono ?_
      rintro e z1 ⟨rfl, rfl⟩
      go_wp2_with fail
      go_ret
      exact ⟨rfl, KZ.out⟩
    · have hq : ((o.kind : Int) % 7 == 6) = false := by rw [beq_eq_false_iff_ne]; omega
      have hz := HR3.out hk
      subst hz
      have heq := fun y => (eq_thing z z y).trans (by rw [decide_eq_true rfl])
      unfold tv tcells at heq
      clear hk
      go_wp2_with fail
      refine (err_nil _).mono ?_
      rintro e z1 ⟨rfl, rfl⟩
      go_wp2_with fail
      refine (end_nil _).mono ?_
      rintro e z1 ⟨rfl, rfl⟩
      go_wp2_with fail
      refine (rows_nil _).mono ?_
      rintro e z1 ⟨rfl, rfl⟩
      go_wp2_with fail
      refine (count_nil _).mono ?_
      rintro e z2 ⟨rfl, hbz⟩
      have KZ := Lib.hid (K4.out.trans ((BY22.out.trans (hbz.mono BY22.out.size)).mono K4.out.size))
      clear hbz
      go_wp2_with fail
      refine (reads_nil _).mono ?_
      rintro e z1 ⟨rfl, rfl⟩
      go_wp2_with fail
      go_ret
      exact ⟨rfl, KZ.out⟩
end Go.Proofs.Ytdmiljaiglaacaa

/- What came in: a value, and rows of values. -/
namespace Go.Proofs.Ytdmiljaiglaacaa
open Go.ChangeShapes Go.WideShapes Go.ChangeAt Go.RowKit Go.Deep

theorem laidOutP : laidOutB Try.prog = true := by kernel_rfl
theorem cellsVal : Try.prog.cellsOf 28 = 6 := by kernel_rfl
theorem cellsStr : Try.prog.cellsOf 9 = 1 := by kernel_rfl
theorem cellsInt : Try.prog.cellsOf 3 = 1 := by kernel_rfl
theorem cellsU64 : Try.prog.cellsOf 26 = 1 := by kernel_rfl
theorem bytesVal : Try.prog.bytesOf 28 = 80 := by kernel_rfl
theorem weights_all {H : Type} {P : Program} {e : TypeId} : ∀ {ds : List (DataW H)} {d : DataW H}, d ∈ ds → ∀ n ∈ d.weights P e, n ∈ DataW.weightsAll P e ds
  | d0 :: ds, d, h, n, hn => by
    simp only [DataW.weightsAll, List.mem_append]
    rcases List.mem_cons.1 h with rfl | h
    · exact .inl hn
    · exact .inr (weights_all h n hn)
section
variable {H : Type} {enc : TypeId × Value → H} {W : World} {base : Nat} {sp : Nat → Bool} {held : Bool}
set_option maxRecDepth 100000 in
theorem view_val {fuel : Nat} {cs : List Value} {x : DataW H × List MemPlace} (h : DataW.trod enc Try.prog W base sp held fuel 28 cs = some x) (hw : ∀ n ∈ x.1.weights Try.prog 28, n ≤ reachBytes) :
    ∃ v : Pv, v.fits ∧ cs = [.int .i64 v.tag, .string (bs v.text), .int .u64 v.bits, .string (bs v.cls), .string (bs v.name), .string (bs v.desc)] := by
  obtain ⟨xs, n, _, hx, hlen, hlen2, hf⟩ := DataW.trod_struct Try.underlying28 h
  rw [cellsVal] at hlen
  match cs, hlen with
  | [a0, a1, a2, a3, a4, a5], _ =>
    have g0 := hf 0 _ rfl
    have g1 := hf 1 _ rfl
    have g2 := hf 2 _ rfl
    have g3 := hf 3 _ rfl
    have g4 := hf 4 _ rfl
    have g5 := hf 5 _ rfl
    match xs, hlen2, hx with
    | [x0, x1, x2, x3, x4, x5], _, hx =>
    simp [cellsStr, cellsInt, cellsU64] at g0 g1 g2 g3 g4 g5
    obtain ⟨t, e0, f0, w0⟩ := DataW.trod_int Try.underlying3 g0
    obtain ⟨s1, e1, f1, _⟩ := DataW.trod_string Try.underlying9 g1
    obtain ⟨b, e2, f2, w2⟩ := DataW.trod_int Try.underlying26 g2
    obtain ⟨s3, e3, f3, _⟩ := DataW.trod_string Try.underlying9 g3
    obtain ⟨s4, e4, f4, _⟩ := DataW.trod_string Try.underlying9 g4
    obtain ⟨s5, e5, f5, _⟩ := DataW.trod_string Try.underlying9 g5
    subst f0 f1 f2 f3 f4 f5
    simp only [List.cons.injEq, and_true] at e0 e1 e2 e3 e4 e5
    subst hx
    have r0 := bounds_i64 w0
    have r2 := bounds_u64 w2
    have hr2 : reachBytes + 24 ≤ 140737488355328 := by decide
    simp only [DataW.weights, Try.underlying28] at hw
    simp [DataW.weightsEach, DataW.weights] at hw
    have es : ∀ s : ByteArray, bs s.data.toList = s := fun s => by cases s; simp [bs]
    have eb : ((b.toNat : Nat) : Int) = b := by omega
    refine ⟨⟨t, s1.data.toList, b.toNat, s3.data.toList, s4.data.toList, s5.data.toList⟩, ⟨r0, by show b.toNat < _; omega, ?_, ?_, ?_, ?_⟩, ?_⟩
    · show s1.data.toList.length ≤ _; rw [Array.length_toList]; exact Nat.le_trans hw.1 (by omega)
    · show s3.data.toList.length ≤ _; rw [Array.length_toList]; exact Nat.le_trans hw.2.1 (by omega)
    · show s4.data.toList.length ≤ _; rw [Array.length_toList]; exact Nat.le_trans hw.2.2.1 (by omega)
    · show s5.data.toList.length ≤ _; rw [Array.length_toList]; exact Nat.le_trans hw.2.2.2 (by omega)
    · simp only [es, eb]
      rw [e0, e1, e2, e3, e4, e5]
theorem choose_lt' {n : Nat} {p : Nat → Pv → Prop} (h : ∀ i, i < n → ∃ x, p i x) : ∃ f : Nat → Pv, ∀ i, i < n → p i (f i) :=
  ⟨fun i => if hi : i < n then Classical.choose (h i hi) else Pv.zero, fun i hi => by
    simp only [hi, dite_true]
    exact Classical.choose_spec (h i hi)⟩
theorem view_vals {fuel : Nat} {cs : List Value} {x : DataW H × List MemPlace} (h : DataW.trod enc Try.prog W base sp held fuel 25 cs = some x) (hw : ∀ n ∈ x.1.weights Try.prog 25, n ≤ reachBytes) :
    ∃ A c xs, cs = [.slice A (List.length xs) c] ∧ Vals W A c xs ∧ xs.length ≤ 140737488355328 ∧ (A = none → c = 0) ∧ ∀ v ∈ xs, v.fits := by
  rcases open_slice Try.underlying25 h with ⟨rfl, rfl⟩ | ⟨a, len, cap, m, n, D, Pl, rfl, _, hl, _, hm, rfl, hx⟩
  · exact ⟨none, 0, [], rfl, Vals.nil _ _ _, by simp, fun _ => rfl, fun v hv => by cases hv⟩
  · have hlm : len ≤ m := by rw [hm]; split <;> omega
    rw [cellsVal] at hx
    obtain ⟨S, hS⟩ := choose_lt' (n := len) (p := fun i v => v.fits ∧ W.cells? base (a.add (i * 6)) 6 = some [.int .i64 v.tag, .string (bs v.text), .int .u64 v.bits, .string (bs v.cls), .string (bs v.name), .string (bs v.desc)]) (fun i hi => by
      obtain ⟨cs', h1, h2⟩ := hx i (by omega)
      obtain ⟨v, hv, rfl⟩ := view_val h2 (fun n hn => hw n (by
        simp only [DataW.weights, Try.underlying25, List.mem_cons, List.mem_append]
        exact .inr (.inl (weights_all (List.mem_map.2 ⟨i, List.mem_range.2 hi, rfl⟩) n hn))))
      exact ⟨v, hv, h1⟩)
    have hll : ((List.range len).map S).length = len := by simp
    have hat : ∀ (j : Nat) f, ((List.range len).map S)[j]? = some f → j < len ∧ f = S j := fun j f hf => by
      have hj := (List.getElem?_eq_some_iff.1 hf).1
      rw [hll] at hj
      refine ⟨hj, ?_⟩
      simp [hj] at hf
      exact hf.symm
    have hr2 : reachBytes + 24 ≤ 140737488355328 := by decide
    refine ⟨some a, cap, (List.range len).map S, by rw [hll], ⟨by rw [hll]; exact hl, fun h0 => ?_⟩, ?_, (fun e => by cases e), fun v hv => ?_⟩
    · rw [hll] at h0
      obtain ⟨_, h1⟩ := hS 0 h0
      obtain ⟨_, _, hc⟩ := World.cells?_some h1
      have h2 := hc 0 (by omega)
      rw [Nat.zero_mul] at h2
      obtain ⟨g, o, s⟩ := a
      have hs : s = none := by simpa [Addr.add] using World.cell?_spot h2
      subst hs
      refine ⟨g, o, rfl, by simpa [Addr.add] using World.block_lt_of_cell? W _ h2, fun j f hf => ?_⟩
      obtain ⟨hj, rfl⟩ := hat j f hf
      obtain ⟨_, k2⟩ := hS j hj
      obtain ⟨_, _, hc⟩ := World.cells?_some k2
      have c0 := hc 0 (by omega)
      have c1 := hc 1 (by omega)
      have c2 := hc 2 (by omega)
      have c3 := hc 3 (by omega)
      have c4 := hc 4 (by omega)
      have c5 := hc 5 (by omega)
      rw [addr_add, addr_add] at c0 c1 c2 c3 c4 c5
      exact ⟨c0, c1, c2, c3, c4, c5⟩
    · rw [hll]
      have := hw ((((List.range len).map D).length + ((List.range (m - len)).map fun j => D (len + j)).length) * Try.prog.bytesOf 28) (by simp only [DataW.weights, Try.underlying25]; exact List.mem_cons_self ..)
      rw [bytesVal] at this
      simp only [List.length_map, List.length_range] at this
      omega
    · obtain ⟨j, hj, rfl⟩ := List.mem_iff_getElem.1 hv
      obtain ⟨hj2, e⟩ := hat j _ (List.getElem?_eq_getElem hj)
      rw [e]
      exact (hS j hj2).1
end
end Go.Proofs.Ytdmiljaiglaacaa

/- What came in: a thing, and rows of things. -/
namespace Go.Proofs.Ytdmiljaiglaacaa
open Go.ChangeShapes Go.WideShapes Go.ChangeAt Go.RowKit Go.Deep

theorem cellsThing : Try.prog.cellsOf 30 = 10 := by kernel_rfl
theorem cellsU8 : Try.prog.cellsOf 5 = 1 := by kernel_rfl
theorem bytesThing : Try.prog.bytesOf 30 = 120 := by kernel_rfl
section
variable {H : Type} {enc : TypeId × Value → H} {W : World} {base : Nat} {sp : Nat → Bool} {held : Bool}
set_option maxRecDepth 100000 in
theorem view_thing {fuel : Nat} {cs : List Value} {x : DataW H × List MemPlace} (h : DataW.trod enc Try.prog W base sp held fuel 30 cs = some x) (hw : ∀ n ∈ x.1.weights Try.prog 30, n ≤ reachBytes) :
    ∃ t : Th, t.fits ∧ cs = (tcells t).toList := by
  obtain ⟨xs, n, _, hx, hlen, hlen2, hf⟩ := DataW.trod_struct Try.underlying30 h
  rw [cellsThing] at hlen
  match cs, hlen with
  | [a0, a1, a2, a3, a4, a5, a6, a7, a8, a9], _ =>
    have g0 := hf 0 _ rfl
    have g1 := hf 1 _ rfl
    have g2 := hf 2 _ rfl
    have g3 := hf 3 _ rfl
    have g4 := hf 4 _ rfl
    match xs, hlen2, hx with
    | [x0, x1, x2, x3, x4], _, hx =>
    simp [cellsStr, cellsInt, cellsU8, cellsVal] at g0 g1 g2 g3 g4
    obtain ⟨k, e0, f0, w0⟩ := DataW.trod_int Try.underlying5 g0
    obtain ⟨r, e1, f1, w1⟩ := DataW.trod_int Try.underlying3 g1
    obtain ⟨m, e2, f2, w2⟩ := DataW.trod_int Try.underlying3 g2
    obtain ⟨s, e3, f3, _⟩ := DataW.trod_string Try.underlying9 g3
    subst f0 f1 f2 f3
    simp only [List.cons.injEq, and_true] at e0 e1 e2 e3
    subst hx
    have r0 := bounds_u8 w0
    have r1 := bounds_i64 w1
    have r2 := bounds_i64 w2
    simp only [DataW.weights, Try.underlying30] at hw
    simp [DataW.weightsEach, DataW.weights] at hw
    obtain ⟨v, hv, e4⟩ := view_val g4 hw.2
    simp only [List.cons.injEq, and_true] at e4
    obtain ⟨e4, e5, e6, e7, e8, e9⟩ := e4
    have hr2 : reachBytes + 24 ≤ 140737488355328 := by decide
    have es : bs s.data.toList = s := by cases s; simp [bs]
    have eb : ((k.toNat : Nat) : Int) = k := by omega
    refine ⟨⟨k.toNat, r, m, s.data.toList, v⟩, ⟨by show k.toNat < 256; omega, r1, r2, ?_, hv⟩, ?_⟩
    · show s.data.toList.length ≤ _; rw [Array.length_toList]; exact Nat.le_trans hw.1 (by omega)
    · unfold tcells
      simp only [es, eb]
      rw [e0, e1, e2, e3, e4, e5, e6, e7, e8, e9]
theorem choose_ltT {n : Nat} {p : Nat → Th → Prop} (h : ∀ i, i < n → ∃ x, p i x) : ∃ f : Nat → Th, ∀ i, i < n → p i (f i) :=
  ⟨fun i => if hi : i < n then Classical.choose (h i hi) else Th.zero, fun i hi => by
    simp only [hi, dite_true]
    exact Classical.choose_spec (h i hi)⟩
theorem view_things {fuel : Nat} {cs : List Value} {x : DataW H × List MemPlace} (h : DataW.trod enc Try.prog W base sp held fuel 22 cs = some x) (hw : ∀ n ∈ x.1.weights Try.prog 22, n ≤ reachBytes) :
    ∃ A c xs, cs = [.slice A (List.length xs) c] ∧ Ths W A c xs ∧ xs.length ≤ 140737488355328 ∧ ∀ v ∈ xs, v.fits := by
  rcases open_slice Try.underlying22 h with ⟨rfl, rfl⟩ | ⟨a, len, cap, m, n, D, Pl, rfl, _, hl, _, hm, rfl, hx⟩
  · exact ⟨none, 0, [], rfl, Ths.nil _ _ _, by simp, fun v hv => by cases hv⟩
  · have hlm : len ≤ m := by rw [hm]; split <;> omega
    rw [cellsThing] at hx
    obtain ⟨S, hS⟩ := choose_ltT (n := len) (p := fun i v => v.fits ∧ W.cells? base (a.add (i * 10)) 10 = some (tcells v).toList) (fun i hi => by
      obtain ⟨cs', h1, h2⟩ := hx i (by omega)
      obtain ⟨v, hv, rfl⟩ := view_thing h2 (fun n hn => hw n (by
        simp only [DataW.weights, Try.underlying22, List.mem_cons, List.mem_append]
        exact .inr (.inl (weights_all (List.mem_map.2 ⟨i, List.mem_range.2 hi, rfl⟩) n hn))))
      exact ⟨v, hv, h1⟩)
    have hll : ((List.range len).map S).length = len := by simp
    have hat : ∀ (j : Nat) f, ((List.range len).map S)[j]? = some f → j < len ∧ f = S j := fun j f hf => by
      have hj := (List.getElem?_eq_some_iff.1 hf).1
      rw [hll] at hj
      refine ⟨hj, ?_⟩
      simp [hj] at hf
      exact hf.symm
    have hr2 : reachBytes + 24 ≤ 140737488355328 := by decide
    refine ⟨some a, cap, (List.range len).map S, by rw [hll], ⟨by rw [hll]; exact hl, fun h0 => ?_⟩, ?_, fun v hv => ?_⟩
    · rw [hll] at h0
      obtain ⟨_, h1⟩ := hS 0 h0
      obtain ⟨_, _, hc⟩ := World.cells?_some h1
      have h2 := hc 0 (by omega)
      rw [Nat.zero_mul] at h2
      obtain ⟨g, o, s⟩ := a
      have hs : s = none := by simpa [Addr.add] using World.cell?_spot h2
      subst hs
      refine ⟨g, o, rfl, by simpa [Addr.add] using World.block_lt_of_cell? W _ h2, fun j f hf => ?_⟩
      obtain ⟨hj, rfl⟩ := hat j f hf
      obtain ⟨_, k2⟩ := hS j hj
      obtain ⟨_, _, hc⟩ := World.cells?_some k2
      have c0 := hc 0 (by omega)
      have c1 := hc 1 (by omega)
      have c2 := hc 2 (by omega)
      have c3 := hc 3 (by omega)
      have c4 := hc 4 (by omega)
      have c5 := hc 5 (by omega)
      have c6 := hc 6 (by omega)
      have c7 := hc 7 (by omega)
      have c8 := hc 8 (by omega)
      have c9 := hc 9 (by omega)
      rw [addr_add, addr_add] at c0 c1 c2 c3 c4 c5 c6 c7 c8 c9
      exact ⟨⟨c0, c1, c2, c3⟩, c4, c5, c6, c7, c8, c9⟩
    · rw [hll]
      have := hw ((((List.range len).map D).length + ((List.range (m - len)).map fun j => D (len + j)).length) * Try.prog.bytesOf 30) (by simp only [DataW.weights, Try.underlying22]; exact List.mem_cons_self ..)
      rw [bytesThing] at this
      simp only [List.length_map, List.length_range] at this
      omega
    · obtain ⟨j, hj, rfl⟩ := List.mem_iff_getElem.1 hv
      obtain ⟨hj2, e⟩ := hat j _ (List.getElem?_eq_getElem hj)
      rw [e]
      exact (hS j hj2).1
end
end Go.Proofs.Ytdmiljaiglaacaa
