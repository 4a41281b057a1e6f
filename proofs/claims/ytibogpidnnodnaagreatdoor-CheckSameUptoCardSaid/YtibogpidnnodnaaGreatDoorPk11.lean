/- Joined texts: Few, RSameC, TlInj, ChkLaw. -/
import Derived.Test.YtibogpidnnodnaaGreatDoorPk9
import Derived.Test.YtibogpidnnodnaaGreatDoorPk7
import Derived.Test.YtibogpidnnodnaaGreatDoorPk10
import Derived.Test.YtibogpidnnodnaaGreatDoorPk5
/- The walk of layer 20's Few. Printed by mk_few.py. -/
namespace Go.Proofs.YtibogpidnnodnaaGreatDoor
open Go.RowKit Go.Deep

def mins (ss : List (List UInt8)) : Nat := (ss.map fun s => min s.length 100000).sum
theorem mins_snoc {ss : List (List UInt8)} {i : Nat} {x : List UInt8} (h : ss[i]? = some x) : mins (ss.take (i + 1)) = mins (ss.take i) + min x.length 100000 := by
  rw [List.take_add_one, h]
  simp [mins, List.sum_append]
theorem mins_take (ss : List (List UInt8)) (i : Nat) : mins (ss.take i) ≤ mins ss := by
  conv => rhs; rw [← List.take_append_drop i ss]
  simp only [mins, List.map_append, List.sum_append]
  omega
theorem text_size {t : Tl} {x : List UInt8} (h : x ∈ t.2) : x.length ≤ t.size := by
  have : ∀ l : List (List UInt8), x ∈ l → x.length ≤ (l.map fun s => s.length + 1).sum := fun l => by
    induction l with
    | nil => intro h; cases h
    | cons a l ih =>
      intro h
      simp only [List.map_cons, List.sum_cons]
      rcases List.mem_cons.1 h with rfl | h
      · omega
      · have := ih h
        omega
  have := this t.2 h
  unfold Tl.size
  omega
theorem few_no {t : Tl} {i : Nat} (h : 20000 < mins (t.2.take i)) : t.few = false := by
  have := mins_take t.2 i
  unfold Tl.few
  rw [show decide ((t.2.map fun s => min s.length 100000).sum ≤ 20000) = false from decide_eq_false (by unfold mins at this h; omega)]
  rfl
theorem few_end {t : Tl} (h : mins t.2 ≤ 20000) : t.few = decide (t.1.length ≤ 20000) := by
  unfold Tl.few
  rw [show decide ((t.2.map fun s => min s.length 100000).sum ≤ 20000) = true from decide_eq_true h]
  rfl
theorem min_int (x : List UInt8) : (if (100000 : Int) < ((bs x).size : Int) then (100000 : Int) else ((bs x).size : Int)) = ((min x.length 100000 : Nat) : Int) := by
  rw [bs_size]
  split <;> omega
theorem min_int2 (x : List UInt8) : min ((bs x).size : Int) 100000 = ((min x.length 100000 : Nat) : Int) := by
  rw [bs_size]
  omega
theorem few_last (n : Nat) : Ending.returned (Value.bool (decide ((n : Int) ≤ 20000))) = Ending.returned (Value.bool (decide (n ≤ 20000))) := by
  rw [show decide ((n : Int) ≤ 20000) = decide (n ≤ 20000) from decide_eq_decide.2 (by omega)]
set_option maxRecDepth 100000 in
set_option maxHeartbeats 4000000 in
theorem few_any (w : World) (y : Cls) (cs : List Value) (hr : Cls.rd w cs y) (hg : y.good) (hsz : (tlCls y).size ≤ 100000000) :
    Calls Tryz.prog 5 #[.agg cs.toArray] w fun e w' => e = .returned (.bool (tlCls y).few) ∧ Below w.heap.size w w' := by
  have HRD := Lib.hid (fun w' (k : Below w.heap.size w w') => Cls.rd_grow hr k)
  obtain ⟨B5, d5, B6, d6, B7, d7, C0, e0, C1, e1, C2, e2, C3, e3, C4, e4, C5, e5, rfl, _⟩ := Cls.leafs hr
  have k1 := (Below.refl w.heap.size w).alloc (Nat.le_refl _) (.cells #[.int .i64 y.minor, .int .i64 y.major, .int .i64 y.flags, .string (bs y.this), .string (bs y.super), .slice B5 y.faces.length d5, .slice B6 y.fields.length d6, .slice B7 y.methods.length d7, .int .i64 y.attrs.has, .int .i64 y.attrs.code.stack, .int .i64 y.attrs.code.locals, .slice C0 y.attrs.code.ops.length e0, .slice C1 y.attrs.code.handlers.length e1, .int .i64 y.attrs.code.has, .slice C2 y.attrs.code.lines.length e2, .slice C3 y.attrs.code.slots.length e3, .int .i64 y.attrs.value.tag, .string (bs y.attrs.value.text), .int .u64 y.attrs.value.bits, .string (bs y.attrs.value.cls), .string (bs y.attrs.value.name), .string (bs y.attrs.value.desc), .slice C4 y.attrs.throws.length e4, .slice C5 y.attrs.inners.length e5, .string (bs y.attrs.signature), .string (bs y.attrs.source)] 37)
  have HX := Lib.hid (heap_alloc_new w (.cells #[.int .i64 y.minor, .int .i64 y.major, .int .i64 y.flags, .string (bs y.this), .string (bs y.super), .slice B5 y.faces.length d5, .slice B6 y.fields.length d6, .slice B7 y.methods.length d7, .int .i64 y.attrs.has, .int .i64 y.attrs.code.stack, .int .i64 y.attrs.code.locals, .slice C0 y.attrs.code.ops.length e0, .slice C1 y.attrs.code.handlers.length e1, .int .i64 y.attrs.code.has, .slice C2 y.attrs.code.lines.length e2, .slice C3 y.attrs.code.slots.length e3, .int .i64 y.attrs.value.tag, .string (bs y.attrs.value.text), .int .u64 y.attrs.value.bits, .string (bs y.attrs.value.cls), .string (bs y.attrs.value.name), .string (bs y.attrs.value.desc), .slice C4 y.attrs.throws.length e4, .slice C5 y.attrs.inners.length e5, .string (bs y.attrs.signature), .string (bs y.attrs.source)] 37))
  have K1 := Lib.hid k1
  have hz1 := k1.size
  clear k1 hr
  go_enter Tryz.func5, Tryz.ntmps5
  go_upto_region 1 with fail
  generalize w.alloc (.cells #[.int .i64 y.minor, .int .i64 y.major, .int .i64 y.flags, .string (bs y.this), .string (bs y.super), .slice B5 y.faces.length d5, .slice B6 y.fields.length d6, .slice B7 y.methods.length d7, .int .i64 y.attrs.has, .int .i64 y.attrs.code.stack, .int .i64 y.attrs.code.locals, .slice C0 y.attrs.code.ops.length e0, .slice C1 y.attrs.code.handlers.length e1, .int .i64 y.attrs.code.has, .slice C2 y.attrs.code.lines.length e2, .slice C3 y.attrs.code.slots.length e3, .int .i64 y.attrs.value.tag, .string (bs y.attrs.value.text), .int .u64 y.attrs.value.bits, .string (bs y.attrs.value.cls), .string (bs y.attrs.value.name), .string (bs y.attrs.value.desc), .slice C4 y.attrs.throws.length e4, .slice C5 y.attrs.inners.length e5, .string (bs y.attrs.signature), .string (bs y.attrs.source)] 37) = W at HX K1 hz1 ⊢
  have HCA := Lib.hid (show CellsAt W w.heap.size 0 [.int .i64 y.minor, .int .i64 y.major, .int .i64 y.flags, .string (bs y.this), .string (bs y.super), .slice B5 y.faces.length d5, .slice B6 y.fields.length d6, .slice B7 y.methods.length d7, .int .i64 y.attrs.has, .int .i64 y.attrs.code.stack, .int .i64 y.attrs.code.locals, .slice C0 y.attrs.code.ops.length e0, .slice C1 y.attrs.code.handlers.length e1, .int .i64 y.attrs.code.has, .slice C2 y.attrs.code.lines.length e2, .slice C3 y.attrs.code.slots.length e3, .int .i64 y.attrs.value.tag, .string (bs y.attrs.value.text), .int .u64 y.attrs.value.bits, .string (bs y.attrs.value.cls), .string (bs y.attrs.value.name), .string (bs y.attrs.value.desc), .slice C4 y.attrs.throws.length e4, .slice C5 y.attrs.inners.length e5, .string (bs y.attrs.signature), .string (bs y.attrs.source)] from cellsAt_block HX.out 0 26)
  have hcl : (Tryz.prog.info? 37).map (·.size) = some 26 := by kernel_rfl
  have CL := Lib.hid (told_any W y _ (HRD.out W K1.out) hg hsz)
  go_upto_region 2 with (refine wpList_load_cells rfl 37 _ rfl w.heap.size 0 rfl _ HCA.out _ Tryz.underlying37 rfl hcl ?_)
  refine CL.out.mono ?_
  rintro e w2 ⟨g, rfl, ht, hb⟩
  have K2 := Lib.hid (K1.out.trans (hb.mono hz1))
  obtain ⟨vN, vS, h1, _, hn, hs⟩ := ht
  obtain ⟨AN, cN, rfl, _⟩ := hn.reads
  obtain ⟨AS, cS, rfl, hS⟩ := hs.reads
  have HS := Lib.hid hS
  have f0 : w2.cell? ⟨g, 0, none⟩ = some (.slice AN (tlCls y).1.length cN) := by rw [Lib.cell_of_heap h1]; rfl
  have f1 : w2.cell? ⟨g, 1, none⟩ = some (.slice AS (tlCls y).2.length cS) := by rw [Lib.cell_of_heap h1]; rfl
  have hq := (Array.getElem?_eq_some_iff.1 h1).1
  have hln := len_size (tlCls y)
  have HTS := Lib.hid (fun x (hx : x ∈ (tlCls y).2) => Nat.le_trans (text_size hx) hsz)
  clear CL hb hn hs hS h1 HX HCA HRD hcl K1 hz1
  generalize hTy : tlCls y = T at f0 f1 HS hln HTS hsz ⊢
  have HTY := Lib.hid hTy
  clear hTy
  go_upto_region 4 with fail
  go_loopw [4, 14] (fun s4 s14 wr => ∃ i : Nat, i ≤ T.2.length ∧ s14 = .int .i64 i ∧ s4 = .int .i64 (mins (T.2.take i) : Nat) ∧ mins (T.2.take i) ≤ 20000 ∧ wr = w2) (fun _ s14 _ => T.2.length - (intOf s14).toNat)
  case atStart => exact ⟨0, Nat.zero_le _, rfl, rfl, by simp [mins], rfl⟩
  case round =>
    obtain ⟨i, hil, rfl, rfl, hm, rfl⟩ := hrel
    by_cases h1 : i < T.2.length
    · obtain ⟨g2, o2, x, rfl, hgw, hx, hc⟩ := HS.out.at_ h1
      have hxl := HTS.out x (List.mem_of_getElem? hx)
      have hms := mins_snoc hx
      go_upto_region 7 with fail
      have he : (if (100000 : Int) < ((bs x).size : Int) then (100000 : Int) else ((bs x).size : Int)) = ((min x.length 100000 : Nat) : Int) := min_int x
      have he2 : min ((bs x).size : Int) 100000 = ((min x.length 100000 : Nat) : Int) := min_int2 x
      first | rw [he] | rw [he2]
      rw [← Int.natCast_add, ← hms]
      clear he he2 hms
      obtain ⟨m2, hm2⟩ : ∃ m2, m2 = mins (T.2.take (i + 1)) := ⟨_, rfl⟩
      rw [← hm2]
      by_cases hb2 : m2 ≤ 20000
      · have hbi : ((m2 : Int) ≤ 20000) := by omega
        have hbj : ¬ ((20000 : Int) < (m2 : Int)) := by omega
        go_wp2_with fail
        refine ⟨⟨i + 1, h1, rfl, by rw [← hm2], by rw [← hm2]; exact hb2, trivial⟩, ?_⟩
        exact less_next h1
      · have hbi : ¬ ((m2 : Int) ≤ 20000) := by omega
        have hbj : ((20000 : Int) < (m2 : Int)) := by omega
        have hfn := few_no (t := T) (i := i + 1) (by omega)
        go_wp2_with fail
        go_ret
        exact ⟨by rw [HTY.out, hfn]; rfl, K2.out⟩
    · have hie : i = T.2.length := by omega
      subst hie
      rw [List.take_length] at hm
      have hfe := few_end hm
      go_wp2_with fail
      go_ret
      refine ⟨?_, K2.out⟩
      rw [HTY.out, hfe]
      exact few_last _
end Go.Proofs.YtibogpidnnodnaaGreatDoor

/- The walk of the document's Same of classes. Printed by mk_rsame.py. -/
namespace Go.Proofs.YtibogpidnnodnaaGreatDoor
open Go.RowKit Go.Deep

/-- What a told class's box is, told by its blocks. -/
def BF (t : Tl) (ω : OrdD.Out) : Prop := ω.got = true ∧ ω.v = .pointer (some ⟨ω.B, 0, none⟩) ∧ ∃ AN cN AS cS, ω.obj = .cells #[.slice AN t.1.length cN, .slice AS t.2.length cS] 51 (0, 0) ∧ ∀ y : World, (∀ p ∈ ω.more, y.heap[p.1]? = some p.2) → Ints y AN cN t.1 ∧ Txt y AS cS t.2
theorem irow_outs {y : World} {base : Nat} {v : Value} {L : List Int} (h : IRow y base v L) : ∃ (A : Option Addr) (c : Nat) (more : List (Nat × Obj)), v = .slice A L.length c ∧ (∀ p ∈ more, base ≤ p.1 ∧ y.heap[p.1]? = some p.2) ∧ ∀ z : World, (∀ p ∈ more, z.heap[p.1]? = some p.2) → Ints z A c L := by
  obtain ⟨hl, ho⟩ := h
  rcases ho with ⟨rfl, hn⟩ | ⟨g, cap, cur, rfl, hb, hg, hc, _, _, ht⟩
  · obtain rfl : L = [] := List.eq_nil_of_length_eq_zero hn
    exact ⟨none, 0, [], rfl, fun p hp => (by cases hp), fun z _ => Ints.nil z _ _⟩
  · refine ⟨_, cap, [(g, .cells cur 3 (0, 0))], rfl, fun p hp => ?_, fun z hz => ⟨hc, fun _ => ⟨g, 0, rfl, (Array.getElem?_eq_some_iff.1 (hz _ (List.mem_singleton.2 rfl))).1, fun j x hx => ?_⟩⟩⟩
    · obtain rfl := List.mem_singleton.1 hp
      exact ⟨hb, hg⟩
    · rw [Nat.zero_add, Lib.cell_of_heap (hz _ (List.mem_singleton.2 rfl)), ← Array.getElem?_toList]
      have h2 := ic_get hx
      rw [← ht, List.getElem?_take] at h2
      split at h2
      · exact h2
      · cases h2
theorem trow_outs {y : World} {base : Nat} {v : Value} {L : List (List UInt8)} (h : TRow y base v L) : ∃ (A : Option Addr) (c : Nat) (more : List (Nat × Obj)), v = .slice A L.length c ∧ (∀ p ∈ more, base ≤ p.1 ∧ y.heap[p.1]? = some p.2) ∧ ∀ z : World, (∀ p ∈ more, z.heap[p.1]? = some p.2) → Txt z A c L := by
  obtain ⟨hl, ho⟩ := h
  rcases ho with ⟨rfl, hn⟩ | ⟨g, cap, cur, rfl, hb, hg, hc, _, _, ht⟩
  · obtain rfl : L = [] := List.eq_nil_of_length_eq_zero hn
    exact ⟨none, 0, [], rfl, fun p hp => (by cases hp), fun z _ => Txt.nil z _ _⟩
  · refine ⟨_, cap, [(g, .cells cur 9 (0, 0))], rfl, fun p hp => ?_, fun z hz => ⟨hc, fun _ => ⟨g, 0, rfl, (Array.getElem?_eq_some_iff.1 (hz _ (List.mem_singleton.2 rfl))).1, fun j x hx => ?_⟩⟩⟩
    · obtain rfl := List.mem_singleton.1 hp
      exact ⟨hb, hg⟩
    · rw [Nat.zero_add, Lib.cell_of_heap (hz _ (List.mem_singleton.2 rfl)), ← Array.getElem?_toList]
      have h2 := sc_get hx
      rw [← ht, List.getElem?_take] at h2
      split at h2
      · exact h2
      · cases h2
theorem told_out {w0 x : World} (hk : Below w0.heap.size w0 x) {y : Cls} {cs : List Value} (hr : Cls.rd x cs y) (hg : y.good) (hs : (tlCls y).size ≤ 100000000) :
    Calls Tryz.prog 11 #[.agg cs.toArray] x fun e z => ∃ ω : OrdD.Out, e = .returned ω.v ∧ Below x.heap.size x z ∧ (ω.got = true → w0.heap.size ≤ ω.B ∧ z.heap[ω.B]? = some ω.obj ∧ ∀ p ∈ ω.more, w0.heap.size ≤ p.1 ∧ z.heap[p.1]? = some p.2) ∧ BF (tlCls y) ω := by
  refine (told_any x y cs hr hg hs).mono ?_
  rintro e z ⟨g, rfl, ⟨vN, vS, h1, h2, hn, hS⟩, hb⟩
  obtain ⟨AN, cN, mN, rfl, m1, m2⟩ := irow_outs hn
  obtain ⟨AS, cS, mS, rfl, m3, m4⟩ := trow_outs hS
  refine ⟨⟨g, _, _, true, mN ++ mS⟩, rfl, hb, fun _ => ⟨Nat.le_trans hk.size h2, h1, fun p hp => ?_⟩, rfl, rfl, AN, cN, AS, cS, rfl, fun y hy => ⟨m2 y fun p hp => hy p (List.mem_append_left _ hp), m4 y fun p hp => hy p (List.mem_append_right _ hp)⟩⟩
  rcases List.mem_append.1 hp with hp | hp
  · exact ⟨Nat.le_trans hk.size (m1 p hp).1, (m1 p hp).2⟩
  · exact ⟨Nat.le_trans hk.size (m3 p hp).1, (m3 p hp).2⟩
set_option maxHeartbeats 16000000 in
set_option maxRecDepth 100000 in
theorem rsame20_any (w : World) (a b : Cls) (ca cb : List Value) (ha : Cls.rd w ca a) (hb : Cls.rd w cb b) (hga : a.good) (hgb : b.good) (hsa : (tlCls a).size ≤ 100000000) (hsb : (tlCls b).size ≤ 100000000) :
    Calls Tryz.prog 7 #[.agg ca.toArray, .agg cb.toArray] w fun e w' => TellsB (tlCls a = tlCls b) e ∧ Below w.heap.size w w' := by
  have HRA := Lib.hid (fun w' (k : Below w.heap.size w w') => Cls.rd_grow ha k)
  have HRB := Lib.hid (fun w' (k : Below w.heap.size w w') => Cls.rd_grow hb k)
  obtain ⟨A0, c0, A1, c1, A2, c2, A3, c3, A4, c4, A5, c5, A6, c6, A7, c7, A8, c8, rfl, _⟩ := Cls.leafs ha
  obtain ⟨B0, d0, B1, d1, B2, d2, B3, d3, B4, d4, B5, d5, B6, d6, B7, d7, B8, d8, rfl, _⟩ := Cls.leafs hb
  clear ha hb
  have k1 := (Below.refl w.heap.size w).alloc (Nat.le_refl _) (.cells #[.int .i64 a.minor, .int .i64 a.major, .int .i64 a.flags, .string (bs a.this), .string (bs a.super), .slice A0 a.faces.length c0, .slice A1 a.fields.length c1, .slice A2 a.methods.length c2, .int .i64 a.attrs.has, .int .i64 a.attrs.code.stack, .int .i64 a.attrs.code.locals, .slice A3 a.attrs.code.ops.length c3, .slice A4 a.attrs.code.handlers.length c4, .int .i64 a.attrs.code.has, .slice A5 a.attrs.code.lines.length c5, .slice A6 a.attrs.code.slots.length c6, .int .i64 a.attrs.value.tag, .string (bs a.attrs.value.text), .int .u64 a.attrs.value.bits, .string (bs a.attrs.value.cls), .string (bs a.attrs.value.name), .string (bs a.attrs.value.desc), .slice A7 a.attrs.throws.length c7, .slice A8 a.attrs.inners.length c8, .string (bs a.attrs.signature), .string (bs a.attrs.source)] 37)
  have k2 := (Below.refl (w.alloc (.cells #[.int .i64 a.minor, .int .i64 a.major, .int .i64 a.flags, .string (bs a.this), .string (bs a.super), .slice A0 a.faces.length c0, .slice A1 a.fields.length c1, .slice A2 a.methods.length c2, .int .i64 a.attrs.has, .int .i64 a.attrs.code.stack, .int .i64 a.attrs.code.locals, .slice A3 a.attrs.code.ops.length c3, .slice A4 a.attrs.code.handlers.length c4, .int .i64 a.attrs.code.has, .slice A5 a.attrs.code.lines.length c5, .slice A6 a.attrs.code.slots.length c6, .int .i64 a.attrs.value.tag, .string (bs a.attrs.value.text), .int .u64 a.attrs.value.bits, .string (bs a.attrs.value.cls), .string (bs a.attrs.value.name), .string (bs a.attrs.value.desc), .slice A7 a.attrs.throws.length c7, .slice A8 a.attrs.inners.length c8, .string (bs a.attrs.signature), .string (bs a.attrs.source)] 37)).heap.size (w.alloc (.cells #[.int .i64 a.minor, .int .i64 a.major, .int .i64 a.flags, .string (bs a.this), .string (bs a.super), .slice A0 a.faces.length c0, .slice A1 a.fields.length c1, .slice A2 a.methods.length c2, .int .i64 a.attrs.has, .int .i64 a.attrs.code.stack, .int .i64 a.attrs.code.locals, .slice A3 a.attrs.code.ops.length c3, .slice A4 a.attrs.code.handlers.length c4, .int .i64 a.attrs.code.has, .slice A5 a.attrs.code.lines.length c5, .slice A6 a.attrs.code.slots.length c6, .int .i64 a.attrs.value.tag, .string (bs a.attrs.value.text), .int .u64 a.attrs.value.bits, .string (bs a.attrs.value.cls), .string (bs a.attrs.value.name), .string (bs a.attrs.value.desc), .slice A7 a.attrs.throws.length c7, .slice A8 a.attrs.inners.length c8, .string (bs a.attrs.signature), .string (bs a.attrs.source)] 37))).alloc (Nat.le_refl _) (.cells #[.int .i64 b.minor, .int .i64 b.major, .int .i64 b.flags, .string (bs b.this), .string (bs b.super), .slice B0 b.faces.length d0, .slice B1 b.fields.length d1, .slice B2 b.methods.length d2, .int .i64 b.attrs.has, .int .i64 b.attrs.code.stack, .int .i64 b.attrs.code.locals, .slice B3 b.attrs.code.ops.length d3, .slice B4 b.attrs.code.handlers.length d4, .int .i64 b.attrs.code.has, .slice B5 b.attrs.code.lines.length d5, .slice B6 b.attrs.code.slots.length d6, .int .i64 b.attrs.value.tag, .string (bs b.attrs.value.text), .int .u64 b.attrs.value.bits, .string (bs b.attrs.value.cls), .string (bs b.attrs.value.name), .string (bs b.attrs.value.desc), .slice B7 b.attrs.throws.length d7, .slice B8 b.attrs.inners.length d8, .string (bs b.attrs.signature), .string (bs b.attrs.source)] 37)
  have X1 := Lib.hid ((k2.block _ (Array.getElem?_eq_some_iff.1 (heap_alloc_new w (.cells #[.int .i64 a.minor, .int .i64 a.major, .int .i64 a.flags, .string (bs a.this), .string (bs a.super), .slice A0 a.faces.length c0, .slice A1 a.fields.length c1, .slice A2 a.methods.length c2, .int .i64 a.attrs.has, .int .i64 a.attrs.code.stack, .int .i64 a.attrs.code.locals, .slice A3 a.attrs.code.ops.length c3, .slice A4 a.attrs.code.handlers.length c4, .int .i64 a.attrs.code.has, .slice A5 a.attrs.code.lines.length c5, .slice A6 a.attrs.code.slots.length c6, .int .i64 a.attrs.value.tag, .string (bs a.attrs.value.text), .int .u64 a.attrs.value.bits, .string (bs a.attrs.value.cls), .string (bs a.attrs.value.name), .string (bs a.attrs.value.desc), .slice A7 a.attrs.throws.length c7, .slice A8 a.attrs.inners.length c8, .string (bs a.attrs.signature), .string (bs a.attrs.source)] 37))).1).trans (heap_alloc_new w (.cells #[.int .i64 a.minor, .int .i64 a.major, .int .i64 a.flags, .string (bs a.this), .string (bs a.super), .slice A0 a.faces.length c0, .slice A1 a.fields.length c1, .slice A2 a.methods.length c2, .int .i64 a.attrs.has, .int .i64 a.attrs.code.stack, .int .i64 a.attrs.code.locals, .slice A3 a.attrs.code.ops.length c3, .slice A4 a.attrs.code.handlers.length c4, .int .i64 a.attrs.code.has, .slice A5 a.attrs.code.lines.length c5, .slice A6 a.attrs.code.slots.length c6, .int .i64 a.attrs.value.tag, .string (bs a.attrs.value.text), .int .u64 a.attrs.value.bits, .string (bs a.attrs.value.cls), .string (bs a.attrs.value.name), .string (bs a.attrs.value.desc), .slice A7 a.attrs.throws.length c7, .slice A8 a.attrs.inners.length c8, .string (bs a.attrs.signature), .string (bs a.attrs.source)] 37)))
  have X2 := Lib.hid (heap_alloc_new (w.alloc (.cells #[.int .i64 a.minor, .int .i64 a.major, .int .i64 a.flags, .string (bs a.this), .string (bs a.super), .slice A0 a.faces.length c0, .slice A1 a.fields.length c1, .slice A2 a.methods.length c2, .int .i64 a.attrs.has, .int .i64 a.attrs.code.stack, .int .i64 a.attrs.code.locals, .slice A3 a.attrs.code.ops.length c3, .slice A4 a.attrs.code.handlers.length c4, .int .i64 a.attrs.code.has, .slice A5 a.attrs.code.lines.length c5, .slice A6 a.attrs.code.slots.length c6, .int .i64 a.attrs.value.tag, .string (bs a.attrs.value.text), .int .u64 a.attrs.value.bits, .string (bs a.attrs.value.cls), .string (bs a.attrs.value.name), .string (bs a.attrs.value.desc), .slice A7 a.attrs.throws.length c7, .slice A8 a.attrs.inners.length c8, .string (bs a.attrs.signature), .string (bs a.attrs.source)] 37)) (.cells #[.int .i64 b.minor, .int .i64 b.major, .int .i64 b.flags, .string (bs b.this), .string (bs b.super), .slice B0 b.faces.length d0, .slice B1 b.fields.length d1, .slice B2 b.methods.length d2, .int .i64 b.attrs.has, .int .i64 b.attrs.code.stack, .int .i64 b.attrs.code.locals, .slice B3 b.attrs.code.ops.length d3, .slice B4 b.attrs.code.handlers.length d4, .int .i64 b.attrs.code.has, .slice B5 b.attrs.code.lines.length d5, .slice B6 b.attrs.code.slots.length d6, .int .i64 b.attrs.value.tag, .string (bs b.attrs.value.text), .int .u64 b.attrs.value.bits, .string (bs b.attrs.value.cls), .string (bs b.attrs.value.name), .string (bs b.attrs.value.desc), .slice B7 b.attrs.throws.length d7, .slice B8 b.attrs.inners.length d8, .string (bs b.attrs.signature), .string (bs b.attrs.source)] 37))
  have KW := Lib.hid (k1.trans (k2.mono k1.size))
  have hs1 : (w.alloc (.cells #[.int .i64 a.minor, .int .i64 a.major, .int .i64 a.flags, .string (bs a.this), .string (bs a.super), .slice A0 a.faces.length c0, .slice A1 a.fields.length c1, .slice A2 a.methods.length c2, .int .i64 a.attrs.has, .int .i64 a.attrs.code.stack, .int .i64 a.attrs.code.locals, .slice A3 a.attrs.code.ops.length c3, .slice A4 a.attrs.code.handlers.length c4, .int .i64 a.attrs.code.has, .slice A5 a.attrs.code.lines.length c5, .slice A6 a.attrs.code.slots.length c6, .int .i64 a.attrs.value.tag, .string (bs a.attrs.value.text), .int .u64 a.attrs.value.bits, .string (bs a.attrs.value.cls), .string (bs a.attrs.value.name), .string (bs a.attrs.value.desc), .slice A7 a.attrs.throws.length c7, .slice A8 a.attrs.inners.length c8, .string (bs a.attrs.signature), .string (bs a.attrs.source)] 37)).heap.size = w.heap.size + 1 := by show (w.heap.push _).size = _; simp
  rw [hs1] at X2
  clear k1 k2 hs1
  go_enter Tryz.func7, Tryz.ntmps7
  go_upto_region 1 with fail
  generalize (w.alloc (.cells #[.int .i64 a.minor, .int .i64 a.major, .int .i64 a.flags, .string (bs a.this), .string (bs a.super), .slice A0 a.faces.length c0, .slice A1 a.fields.length c1, .slice A2 a.methods.length c2, .int .i64 a.attrs.has, .int .i64 a.attrs.code.stack, .int .i64 a.attrs.code.locals, .slice A3 a.attrs.code.ops.length c3, .slice A4 a.attrs.code.handlers.length c4, .int .i64 a.attrs.code.has, .slice A5 a.attrs.code.lines.length c5, .slice A6 a.attrs.code.slots.length c6, .int .i64 a.attrs.value.tag, .string (bs a.attrs.value.text), .int .u64 a.attrs.value.bits, .string (bs a.attrs.value.cls), .string (bs a.attrs.value.name), .string (bs a.attrs.value.desc), .slice A7 a.attrs.throws.length c7, .slice A8 a.attrs.inners.length c8, .string (bs a.attrs.signature), .string (bs a.attrs.source)] 37)).alloc (.cells #[.int .i64 b.minor, .int .i64 b.major, .int .i64 b.flags, .string (bs b.this), .string (bs b.super), .slice B0 b.faces.length d0, .slice B1 b.fields.length d1, .slice B2 b.methods.length d2, .int .i64 b.attrs.has, .int .i64 b.attrs.code.stack, .int .i64 b.attrs.code.locals, .slice B3 b.attrs.code.ops.length d3, .slice B4 b.attrs.code.handlers.length d4, .int .i64 b.attrs.code.has, .slice B5 b.attrs.code.lines.length d5, .slice B6 b.attrs.code.slots.length d6, .int .i64 b.attrs.value.tag, .string (bs b.attrs.value.text), .int .u64 b.attrs.value.bits, .string (bs b.attrs.value.cls), .string (bs b.attrs.value.name), .string (bs b.attrs.value.desc), .slice B7 b.attrs.throws.length d7, .slice B8 b.attrs.inners.length d8, .string (bs b.attrs.signature), .string (bs b.attrs.source)] 37) = W at X1 X2 KW ⊢
  have z1 : w.heap.size < W.drew.heap.size := (Array.getElem?_eq_some_iff.1 X1.out).1
  have z2 : w.heap.size + 1 < W.drew.heap.size := (Array.getElem?_eq_some_iff.1 X2.out).1
  have HCA := Lib.hid (fun x (hx : Below W.drew.heap.size W.drew x) => (show CellsAt W.drew w.heap.size 0 [.int .i64 a.minor, .int .i64 a.major, .int .i64 a.flags, .string (bs a.this), .string (bs a.super), .slice A0 a.faces.length c0, .slice A1 a.fields.length c1, .slice A2 a.methods.length c2, .int .i64 a.attrs.has, .int .i64 a.attrs.code.stack, .int .i64 a.attrs.code.locals, .slice A3 a.attrs.code.ops.length c3, .slice A4 a.attrs.code.handlers.length c4, .int .i64 a.attrs.code.has, .slice A5 a.attrs.code.lines.length c5, .slice A6 a.attrs.code.slots.length c6, .int .i64 a.attrs.value.tag, .string (bs a.attrs.value.text), .int .u64 a.attrs.value.bits, .string (bs a.attrs.value.cls), .string (bs a.attrs.value.name), .string (bs a.attrs.value.desc), .slice A7 a.attrs.throws.length c7, .slice A8 a.attrs.inners.length c8, .string (bs a.attrs.signature), .string (bs a.attrs.source)] from cellsAt_block (w := W.drew) X1.out 0 26).grow hx z1)
  have HCB := Lib.hid (fun x (hx : Below W.drew.heap.size W.drew x) => (show CellsAt W.drew (w.heap.size + 1) 0 [.int .i64 b.minor, .int .i64 b.major, .int .i64 b.flags, .string (bs b.this), .string (bs b.super), .slice B0 b.faces.length d0, .slice B1 b.fields.length d1, .slice B2 b.methods.length d2, .int .i64 b.attrs.has, .int .i64 b.attrs.code.stack, .int .i64 b.attrs.code.locals, .slice B3 b.attrs.code.ops.length d3, .slice B4 b.attrs.code.handlers.length d4, .int .i64 b.attrs.code.has, .slice B5 b.attrs.code.lines.length d5, .slice B6 b.attrs.code.slots.length d6, .int .i64 b.attrs.value.tag, .string (bs b.attrs.value.text), .int .u64 b.attrs.value.bits, .string (bs b.attrs.value.cls), .string (bs b.attrs.value.name), .string (bs b.attrs.value.desc), .slice B7 b.attrs.throws.length d7, .slice B8 b.attrs.inners.length d8, .string (bs b.attrs.signature), .string (bs b.attrs.source)] from cellsAt_block (w := W.drew) X2.out 0 26).grow hx z2)
  have hcl : (Tryz.prog.info? 37).map (·.size) = some 26 := by kernel_rfl
  have HR1 := Lib.hid (fun x (hx : Below W.drew.heap.size W.drew x) => HRA.out x (KW.out.drew.trans (hx.mono KW.out.size)))
  have HR2 := Lib.hid (fun x (hx : Below W.drew.heap.size W.drew x) => HRB.out x (KW.out.drew.trans (hx.mono KW.out.size)))
  clear HRA HRB
  refine OrdD.wp_region_ord (fr := fun o => if o.dst == some 10 || o.dst == some 12 then 2 else 0) (Ψ := fun o ω => BF (if o.dst == some 10 then tlCls a else tlCls b) ω) 6 (by kernel_rfl) (by kernel_rfl) (fun _ _ d _ _ h => by cases d <;> exact h) ?_
  try simp only [List.take_succ_cons, List.take_zero, List.drop_succ_cons, List.drop_zero]
  refine OrdD.lex_val rfl rfl (.agg #[.int .i64 a.minor, .int .i64 a.major, .int .i64 a.flags, .string (bs a.this), .string (bs a.super), .slice A0 a.faces.length c0, .slice A1 a.fields.length c1, .slice A2 a.methods.length c2, .int .i64 a.attrs.has, .int .i64 a.attrs.code.stack, .int .i64 a.attrs.code.locals, .slice A3 a.attrs.code.ops.length c3, .slice A4 a.attrs.code.handlers.length c4, .int .i64 a.attrs.code.has, .slice A5 a.attrs.code.lines.length c5, .slice A6 a.attrs.code.slots.length c6, .int .i64 a.attrs.value.tag, .string (bs a.attrs.value.text), .int .u64 a.attrs.value.bits, .string (bs a.attrs.value.cls), .string (bs a.attrs.value.name), .string (bs a.attrs.value.desc), .slice A7 a.attrs.throws.length c7, .slice A8 a.attrs.inners.length c8, .string (bs a.attrs.signature), .string (bs a.attrs.source)]) (fun x hx => run_load_cells 37 _ rfl w.heap.size 0 rfl _ (HCA.out x hx.below) _ Tryz.underlying37 rfl hcl) ?_
  simp only [Act.put, List.setIfInBounds_toArray, List.set_cons_zero, List.set_cons_succ]
  refine OrdD.lex_call rfl rfl 11 #[.agg #[.int .i64 a.minor, .int .i64 a.major, .int .i64 a.flags, .string (bs a.this), .string (bs a.super), .slice A0 a.faces.length c0, .slice A1 a.fields.length c1, .slice A2 a.methods.length c2, .int .i64 a.attrs.has, .int .i64 a.attrs.code.stack, .int .i64 a.attrs.code.locals, .slice A3 a.attrs.code.ops.length c3, .slice A4 a.attrs.code.handlers.length c4, .int .i64 a.attrs.code.has, .slice A5 a.attrs.code.lines.length c5, .slice A6 a.attrs.code.slots.length c6, .int .i64 a.attrs.value.tag, .string (bs a.attrs.value.text), .int .u64 a.attrs.value.bits, .string (bs a.attrs.value.cls), .string (bs a.attrs.value.name), .string (bs a.attrs.value.desc), .slice A7 a.attrs.throws.length c7, .slice A8 a.attrs.inners.length c8, .string (bs a.attrs.signature), .string (bs a.attrs.source)]] (fun x hx => by go_simp) (fun x hx => told_out hx.below (HR1.out x hx.below) hga hsa) ?_
  intro ω10 hω10
  have R10 := Lib.hid (show BF (tlCls a) ω10 from hω10)
  rw [if_pos R10.out.1, R10.out.2.1]
  clear hω10
  simp only [Act.put, List.setIfInBounds_toArray, List.set_cons_zero, List.set_cons_succ]
  try simp only [List.take_succ_cons, List.take_zero, List.drop_succ_cons, List.drop_zero]
  repeat (first | (refine OrdD.wpLex_skip rfl rfl ?_; simp only [Act.put, List.setIfInBounds_toArray, List.set_cons_zero, List.set_cons_succ]) | (refine OrdD.wpLex_fix rfl rfl ?_; intro F hF R hR hne K hK; go_big_quiet_op; first | (go_big_quiet_on; clear hne hR R hF F) | (apply Exists.intro; refine ⟨fun g => ?_, ?_⟩; (((fail))); go_big_quiet_on; clear hne hR R hF F)) | (apply OrdD.wpLex_blk rfl rfl; (focus (intro x hx; go_simp; exact ⟨rfl, rfl⟩)); intro B hB; simp only [Act.put, blkVal, List.setIfInBounds_toArray, List.set_cons_zero, List.set_cons_succ]))
  refine OrdD.lex_val rfl rfl (.agg #[.int .i64 b.minor, .int .i64 b.major, .int .i64 b.flags, .string (bs b.this), .string (bs b.super), .slice B0 b.faces.length d0, .slice B1 b.fields.length d1, .slice B2 b.methods.length d2, .int .i64 b.attrs.has, .int .i64 b.attrs.code.stack, .int .i64 b.attrs.code.locals, .slice B3 b.attrs.code.ops.length d3, .slice B4 b.attrs.code.handlers.length d4, .int .i64 b.attrs.code.has, .slice B5 b.attrs.code.lines.length d5, .slice B6 b.attrs.code.slots.length d6, .int .i64 b.attrs.value.tag, .string (bs b.attrs.value.text), .int .u64 b.attrs.value.bits, .string (bs b.attrs.value.cls), .string (bs b.attrs.value.name), .string (bs b.attrs.value.desc), .slice B7 b.attrs.throws.length d7, .slice B8 b.attrs.inners.length d8, .string (bs b.attrs.signature), .string (bs b.attrs.source)]) (fun x hx => run_load_cells 37 _ rfl (w.heap.size + 1) 0 rfl _ (HCB.out x hx.below) _ Tryz.underlying37 rfl hcl) ?_
  simp only [Act.put, List.setIfInBounds_toArray, List.set_cons_zero, List.set_cons_succ]
  refine OrdD.lex_call rfl rfl 11 #[.agg #[.int .i64 b.minor, .int .i64 b.major, .int .i64 b.flags, .string (bs b.this), .string (bs b.super), .slice B0 b.faces.length d0, .slice B1 b.fields.length d1, .slice B2 b.methods.length d2, .int .i64 b.attrs.has, .int .i64 b.attrs.code.stack, .int .i64 b.attrs.code.locals, .slice B3 b.attrs.code.ops.length d3, .slice B4 b.attrs.code.handlers.length d4, .int .i64 b.attrs.code.has, .slice B5 b.attrs.code.lines.length d5, .slice B6 b.attrs.code.slots.length d6, .int .i64 b.attrs.value.tag, .string (bs b.attrs.value.text), .int .u64 b.attrs.value.bits, .string (bs b.attrs.value.cls), .string (bs b.attrs.value.name), .string (bs b.attrs.value.desc), .slice B7 b.attrs.throws.length d7, .slice B8 b.attrs.inners.length d8, .string (bs b.attrs.signature), .string (bs b.attrs.source)]] (fun x hx => by go_simp) (fun x hx => told_out hx.below (HR2.out x hx.below) hgb hsb) ?_
  intro ω12 hω12
  have R12 := Lib.hid (show BF (tlCls b) ω12 from hω12)
  rw [if_pos R12.out.1, R12.out.2.1]
  clear hω12
  simp only [Act.put, List.setIfInBounds_toArray, List.set_cons_zero, List.set_cons_succ]
  try simp only [List.take_succ_cons, List.take_zero, List.drop_succ_cons, List.drop_zero]
  repeat (first | (refine OrdD.wpLex_skip rfl rfl ?_; simp only [Act.put, List.setIfInBounds_toArray, List.set_cons_zero, List.set_cons_succ]) | (refine OrdD.wpLex_fix rfl rfl ?_; intro F hF R hR hne K hK; go_big_quiet_op; first | (go_big_quiet_on; clear hne hR R hF F) | (apply Exists.intro; refine ⟨fun g => ?_, ?_⟩; (((fail))); go_big_quiet_on; clear hne hR R hF F)) | (apply OrdD.wpLex_blk rfl rfl; (focus (intro x hx; go_simp; exact ⟨rfl, rfl⟩)); intro B hB; simp only [Act.put, blkVal, List.setIfInBounds_toArray, List.set_cons_zero, List.set_cons_succ]))
  refine OrdD.wpLex_nil ?_
  intro w2 hw2
  have J := Lib.hid (KW.out.trans (((Below.refl W.heap.size W).drew.trans hw2.below).mono KW.out.size))
  have f10 := (hw2.fact 10 ω10.B ω10.obj (.inl (.inl (.inl (.inr ⟨rfl, rfl, rfl⟩))))).2
  have f12 := (hw2.fact 12 ω12.B ω12.obj (.inl (.inr ⟨rfl, rfl, rfl⟩))).2
  have m10 := fun (p : Nat × Obj) (hp : p ∈ ω10.more) => (hw2.fact 10 p.1 p.2 (.inl (.inl (.inr ⟨rfl, hp⟩)))).2
  have m12 := fun (p : Nat × Obj) (hp : p ∈ ω12.more) => (hw2.fact 12 p.1 p.2 (.inr ⟨rfl, hp⟩)).2
  obtain ⟨_, _, AN, cN, AS, cS, o10, r10⟩ := R10.out
  obtain ⟨_, _, BN, dN, BS, dS, o12, r12⟩ := R12.out
  rw [o10] at f10
  rw [o12] at f12
  obtain ⟨i1, s1⟩ := r10 w2 m10
  obtain ⟨i2, s2⟩ := r12 w2 m12
  obtain ⟨T1, hT1⟩ : ∃ t, t = tlCls a := ⟨_, rfl⟩
  obtain ⟨T2, hT2⟩ : ∃ t, t = tlCls b := ⟨_, rfl⟩
  have hln : (tlCls a).1.length ≤ 100000000 ∧ (tlCls a).2.length ≤ 100000000 := by have := len_size (tlCls a); omega
  rw [← hT1] at f10 i1 s1 hln
  have LN := Lib.hid hln
  rw [← hT2] at f12 i2 s2
  have HT1 := Lib.hid hT1.symm
  have HT2 := Lib.hid hT2.symm
  have HN1 := Lib.hid i1
  have HN2 := Lib.hid i2
  have HS1 := Lib.hid s1
  have HS2 := Lib.hid s2
  have F1 := Lib.hid f10
  have F2 := Lib.hid f12
  have q1 := Lib.hid (Array.getElem?_eq_some_iff.1 f10).1
  have q2 := Lib.hid (Array.getElem?_eq_some_iff.1 f12).1
  clear hw2 f10 f12 m10 m12 o10 o12 r10 r12 i1 i2 s1 s2 hT1 hT2 hln R10 R12 HR1 HR2 HCA HCB X1 X2 hcl z1 z2 hga hgb hsa hsb
  have fa0 : w2.cell? ⟨ω10.B, 0, none⟩ = some (.slice AN T1.1.length cN) := by rw [Lib.cell_of_heap F1.out]; rfl
  have fa1 : w2.cell? ⟨ω10.B, 1, none⟩ = some (.slice AS T1.2.length cS) := by rw [Lib.cell_of_heap F1.out]; rfl
  have fb0 : w2.cell? ⟨ω12.B, 0, none⟩ = some (.slice BN T2.1.length dN) := by rw [Lib.cell_of_heap F2.out]; rfl
  have fb1 : w2.cell? ⟨ω12.B, 1, none⟩ = some (.slice BS T2.2.length dS) := by rw [Lib.cell_of_heap F2.out]; rfl
  have fz1 := q1.out
  have fz2 := q2.out
  by_cases hl : T1.1.length = T2.1.length
  rotate_left
  · as_aux_lemma =>
    have e1 : ((T1.1.length : Int) != (T2.1.length : Int)) = true := by
      have : ¬ (T1.1.length : Int) = (T2.1.length : Int) := by omega
      simp [this]
    have HN := Lib.hid (show ¬ tlCls a = tlCls b from fun e => hl (by rw [← HT1.out, ← HT2.out, e]))
    clear hl
    go_upto_region 2 with fail
    go_quiet (fail)
    go_wp2_with fail
    go_ret
    exact ⟨tells_no HN.out, below_drewN J.out _⟩
  have e1 : ((T1.1.length : Int) != (T2.1.length : Int)) = false := by simp [hl]
  have HL1 := Lib.hid hl
  clear hl
  by_cases hl : T1.2.length = T2.2.length
  rotate_left
  · as_aux_lemma =>
    have e2 : ((T1.2.length : Int) != (T2.2.length : Int)) = true := by
      have : ¬ (T1.2.length : Int) = (T2.2.length : Int) := by omega
      simp [this]
    have HN := Lib.hid (show ¬ tlCls a = tlCls b from fun e => hl (by rw [← HT1.out, ← HT2.out, e]))
    clear hl
    go_upto_region 2 with fail
    go_quiet (fail)
    go_wp2_with fail
    go_ret
    exact ⟨tells_no HN.out, below_drewN J.out _⟩
  have e2 : ((T1.2.length : Int) != (T2.2.length : Int)) = false := by simp [hl]
  have HL2 := Lib.hid hl
  clear hl
  go_upto_region 2 with fail
  go_quiet (fail)
  go_upto_region 5 with fail
  clear e1 e2 fa0 fa1 fb0 fb1 fz1 fz2
  go_loopw [42] (fun s42 wr => ∃ i : Nat, i ≤ T1.1.length ∧ s42 = .int .i64 i ∧ T1.1.take i = T2.1.take i ∧ Below w2.heap.size w2 wr) (fun s42 _ => T1.1.length - (intOf s42).toNat)
  case atStart => exact ⟨0, Nat.zero_le _, rfl, rfl, below_drewN (Below.refl _ _) _⟩
  case round =>
    obtain ⟨i, hil, rfl, he, hK⟩ := hrel
    have K := Lib.hid hK
    have HE := Lib.hid he
    have f1 : wr.cell? ⟨ω10.B, 0, none⟩ = some (.slice AN T1.1.length cN) := by rw [World.cell?_of_block (hK.block _ q1.out)]; rw [Lib.cell_of_heap F1.out]; rfl
    have f2 : wr.cell? ⟨ω12.B, 0, none⟩ = some (.slice BN T2.1.length dN) := by rw [World.cell?_of_block (hK.block _ q2.out)]; rw [Lib.cell_of_heap F2.out]; rfl
    have fz1 := Nat.lt_of_lt_of_le q1.out hK.size
    have fz2 := Nat.lt_of_lt_of_le q2.out hK.size
    have hl := HL1.out
    have hln := LN.out.1
    by_cases h1 : i < T1.1.length
    · as_aux_lemma =>
      obtain ⟨g, o, x, rfl, hg, hx, hc⟩ := HN1.out.at_ h1
      obtain ⟨g2, o2, y, rfl, hg2, hy, hc2⟩ := HN2.out.at_ (show i < T2.1.length by omega)
      have c1 : wr.cell? ⟨g, o + i, none⟩ = some (.int .i64 x) := by rw [World.cell?_of_block (hK.block g hg)]; exact hc
      have c2 : wr.cell? ⟨g2, o2 + i, none⟩ = some (.int .i64 y) := by rw [World.cell?_of_block (hK.block g2 hg2)]; exact hc2
      have z1 : g < wr.heap.size := Nat.lt_of_lt_of_le hg hK.size
      have z2 : g2 < wr.heap.size := Nat.lt_of_lt_of_le hg2 hK.size
      have i1 : ¬ ((i : Int) < 0) := by omega
      have i2 : (i : Int) < (T1.1.length : Int) := by omega
      have i3 : (i : Int) < (T2.1.length : Int) := by omega
      have HX := Lib.hid hx
      have HY := Lib.hid hy
      clear hK he hl hx hy hc hc2 hg hg2
      by_cases hxy : x = y
      · subst hxy
        have hbb : (x != x) = false := by simp
        have HT := Lib.hid (take_same HE.out HX.out HY.out)
        go_upto_region 7 with fail
        go_quiet (fail)
        go_wp2_with fail
        exact ⟨⟨i + 1, h1, rfl, HT.out, below_drewN K.out _⟩, next_less h1⟩
      · have hbb : (x != y) = true := by simp [hxy]
        have HN := Lib.hid (not_same HX.out HY.out hxy)
        clear hxy
        go_upto_region 7 with fail
        go_quiet (fail)
        go_wp2_with fail
        go_ret
        exact ⟨tells_no (fun e => HN.out (by rw [← HT1.out, ← HT2.out, e])), J.out.trans ((below_drewN K.out _).mono J.out.size)⟩
    · as_aux_lemma =>
      have hie : i = T1.1.length := by omega
      have hxe : T1.1 = T2.1 := by
        rw [hie, List.take_length, hl, List.take_length] at he
        exact he
      have E1 := Lib.hid hxe
      have h1b : ¬ i < T2.1.length := by omega
      have K1 := Lib.hid hK
      clear hK he hl hxe hil HE
      clear f1 f2 K
      have f1 : wr.cell? ⟨ω10.B, 1, none⟩ = some (.slice AS T1.2.length cS) := by rw [World.cell?_of_block (K1.out.block _ q1.out)]; rw [Lib.cell_of_heap F1.out]; rfl
      go_upto_region 11 with fail
      clear f1 fz1 fz2
      go_loopw [66] (fun s66 wr => ∃ i : Nat, i ≤ T1.2.length ∧ s66 = .int .i64 i ∧ T1.2.take i = T2.2.take i ∧ Below w2.heap.size w2 wr) (fun s66 _ => T1.2.length - (intOf s66).toNat)
      case atStart => exact ⟨0, Nat.zero_le _, rfl, rfl, K1.out⟩
      case round =>
        obtain ⟨i, hil, rfl, he, hK⟩ := hrel
        have K := Lib.hid hK
        have HE := Lib.hid he
        have f1 : wr.cell? ⟨ω10.B, 1, none⟩ = some (.slice AS T1.2.length cS) := by rw [World.cell?_of_block (hK.block _ q1.out)]; rw [Lib.cell_of_heap F1.out]; rfl
        have f2 : wr.cell? ⟨ω12.B, 1, none⟩ = some (.slice BS T2.2.length dS) := by rw [World.cell?_of_block (hK.block _ q2.out)]; rw [Lib.cell_of_heap F2.out]; rfl
        have fz1 := Nat.lt_of_lt_of_le q1.out hK.size
        have fz2 := Nat.lt_of_lt_of_le q2.out hK.size
        have hl := HL2.out
        have hln := LN.out.2
        by_cases h1 : i < T1.2.length
        · as_aux_lemma =>
          obtain ⟨g, o, x, rfl, hg, hx, hc⟩ := HS1.out.at_ h1
          obtain ⟨g2, o2, y, rfl, hg2, hy, hc2⟩ := HS2.out.at_ (show i < T2.2.length by omega)
          have c1 : wr.cell? ⟨g, o + i, none⟩ = some (.string (bs x)) := by rw [World.cell?_of_block (hK.block g hg)]; exact hc
          have c2 : wr.cell? ⟨g2, o2 + i, none⟩ = some (.string (bs y)) := by rw [World.cell?_of_block (hK.block g2 hg2)]; exact hc2
          have z1 : g < wr.heap.size := Nat.lt_of_lt_of_le hg hK.size
          have z2 : g2 < wr.heap.size := Nat.lt_of_lt_of_le hg2 hK.size
          have i1 : ¬ ((i : Int) < 0) := by omega
          have i2 : (i : Int) < (T1.2.length : Int) := by omega
          have i3 : (i : Int) < (T2.2.length : Int) := by omega
          have HX := Lib.hid hx
          have HY := Lib.hid hy
          clear hK he hl hx hy hc hc2 hg hg2
          by_cases hxy : x = y
          · subst hxy
            have hbb : ((bs x).toList == (bs x).toList) = true := by simp
            have HT := Lib.hid (take_same HE.out HX.out HY.out)
            go_upto_region 13 with fail
            go_quiet (fail)
            go_wp2_with fail
            exact ⟨⟨i + 1, h1, rfl, HT.out, below_drewN K.out _⟩, next_less h1⟩
          · have hbb : ((bs x).toList == (bs y).toList) = false := by rw [bs_beq]; exact decide_eq_false hxy
            have HN := Lib.hid (not_same HX.out HY.out hxy)
            clear hxy
            go_upto_region 13 with fail
            go_quiet (fail)
            go_wp2_with fail
            go_ret
            exact ⟨tells_no (fun e => HN.out (by rw [← HT1.out, ← HT2.out, e])), J.out.trans ((below_drewN K.out _).mono J.out.size)⟩
        · as_aux_lemma =>
          have hie : i = T1.2.length := by omega
          have hxe : T1.2 = T2.2 := by
            rw [hie, List.take_length, hl, List.take_length] at he
            exact he
          have E2 := Lib.hid hxe
          have h1b : ¬ i < T2.2.length := by omega
          have K1 := Lib.hid hK
          clear hK he hl hxe hil HE
          clear K
          go_wp2_with fail
          go_ret
          exact ⟨tells_yes (by rw [HT1.out, HT2.out]; exact Prod.ext E1.out E2.out), J.out.trans (K1.out.mono J.out.size)⟩
end Go.Proofs.YtibogpidnnodnaaGreatDoor

/- What a class tells, tells the class: layer 20's list is the same for the same classes alone. Plain. -/
namespace Go.Proofs.YtibogpidnnodnaaGreatDoor

theorem Tl.add_eq (a r b s : Tl) : a.add r = b.add s ↔ a.1 ++ r.1 = b.1 ++ s.1 ∧ a.2 ++ r.2 = b.2 ++ s.2 := by
  simp only [Tl.add, Prod.mk.injEq]
/-- What is told tells the thing, whatever stands behind. -/
def InjOn {α : Type} (P : α → Prop) (f : α → Tl) : Prop := ∀ a b, P a → P b → ∀ r s, (f a).add r = (f b).add s → a = b ∧ r = s
theorem inj_ints {xs ys : List Int} (hl : xs.length = ys.length) {r s : Tl} (h : (tlInts xs).add r = (tlInts ys).add s) : xs = ys ∧ r = s := by
  rw [Tl.add_eq] at h
  obtain ⟨h1, h2⟩ := h
  obtain ⟨e1, e2⟩ := List.append_inj h1 hl
  refine ⟨e1, Prod.ext e2 ?_⟩
  simpa [tlInts] using h2
theorem inj_texts {xs ys : List (List UInt8)} {r s : Tl} (h : (tlTexts xs).add r = (tlTexts ys).add s) : xs = ys ∧ r = s := by
  rw [Tl.add_eq] at h
  obtain ⟨h1, h2⟩ := h
  simp only [tlTexts, List.cons_append, List.nil_append, List.cons.injEq] at h1
  obtain ⟨e1, e2⟩ := List.append_inj h2 (by have := h1.1; simp only [tlTexts]; omega)
  exact ⟨e1, Prod.ext h1.2 e2⟩
theorem inj_all {α : Type} {P : α → Prop} {f : α → Tl} (hf : InjOn P f) : ∀ (xs ys : List α), (∀ x ∈ xs, P x) → (∀ y ∈ ys, P y) → xs.length = ys.length → ∀ r s, (tlAll f xs).add r = (tlAll f ys).add s → xs = ys ∧ r = s
  | [], [], _, _, _, r, s, h => ⟨rfl, by simpa [tlAll, Tl.nil_add] using h⟩
  | x :: xs, y :: ys, hx, hy, hl, r, s, h => by
    simp only [tlAll, Tl.add_assoc] at h
    obtain ⟨e1, h2⟩ := hf x y (hx x (List.mem_cons_self ..)) (hy y (List.mem_cons_self ..)) _ _ h
    obtain ⟨e2, e3⟩ := inj_all hf xs ys (fun z hz => hx z (List.mem_cons_of_mem _ hz)) (fun z hz => hy z (List.mem_cons_of_mem _ hz)) (by simpa using hl) r s h2
    exact ⟨by rw [e1, e2], e3⟩
  | [], _ :: _, _, _, hl, _, _, _ => by simp at hl
  | _ :: _, [], _, _, hl, _, _, _ => by simp at hl
theorem sgn_inj {a b : Nat} (ha : a < 18446744073709551616) (hb : b < 18446744073709551616) (h : sgn a = sgn b) : a = b := by
  unfold sgn Go.RowKit.wrap64 at h
  omega
theorem inj_val : InjOn Pv.fits tlVal := fun a b ha hb r s h => by
  simp only [tlVal, Tl.add_assoc] at h
  obtain ⟨h1, h2⟩ := inj_ints (by simp) h
  obtain ⟨h3, h4⟩ := inj_texts h2
  simp only [List.cons.injEq, and_true] at h1 h3
  obtain ⟨e1, e2⟩ := h1
  obtain ⟨e3, e4, e5, e6⟩ := h3
  have e7 := sgn_inj ha.2.1 hb.2.1 e2
  refine ⟨?_, h4⟩
  cases a; cases b
  simp_all
theorem inj_ins : InjOn Cins.good tlIns := fun a b ha hb r s h => by
  simp only [tlIns, Tl.add_assoc] at h
  obtain ⟨h1, h2⟩ := inj_ints (by simp) h
  obtain ⟨h3, h4⟩ := inj_val _ _ ha.2.2.2.1 hb.2.2.2.1 _ _ h2
  simp only [List.cons.injEq, and_true] at h1
  obtain ⟨e1, e2, e3, e4, e5, e6⟩ := h1
  obtain ⟨e7, h5⟩ := inj_ints (by omega) h4
  obtain ⟨e8, h6⟩ := inj_ints (by omega) h5
  refine ⟨?_, h6⟩
  cases a; cases b
  simp_all
theorem inj_hnd : InjOn Hnd.good tlHnd := fun a b _ _ r s h => by
  simp only [tlHnd, Tl.add_assoc] at h
  obtain ⟨h1, h2⟩ := inj_ints (by simp) h
  obtain ⟨h3, h4⟩ := inj_texts h2
  refine ⟨?_, h4⟩
  cases a; cases b
  simp_all
theorem inj_lno : InjOn Lno.good tlLno := fun a b _ _ r s h => by
  simp only [tlLno] at h
  obtain ⟨h1, h2⟩ := inj_ints (by simp) h
  refine ⟨?_, h2⟩
  cases a; cases b
  simp_all
theorem inj_slt : InjOn Slt.good tlSlt := fun a b _ _ r s h => by
  simp only [tlSlt, Tl.add_assoc] at h
  obtain ⟨h1, h2⟩ := inj_ints (by simp) h
  obtain ⟨h3, h4⟩ := inj_texts h2
  refine ⟨?_, h4⟩
  cases a; cases b
  simp_all
theorem inj_inr : InjOn Inr.good tlInr := fun a b _ _ r s h => by
  simp only [tlInr, Tl.add_assoc] at h
  obtain ⟨h1, h2⟩ := inj_ints (by simp) h
  obtain ⟨h3, h4⟩ := inj_texts h2
  refine ⟨?_, h4⟩
  cases a; cases b
  simp_all
theorem inj_code : InjOn Cde.good tlCode := fun a b ha hb r s h => by
  simp only [tlCode, Tl.add_assoc] at h
  obtain ⟨h1, h2⟩ := inj_ints (by simp) h
  simp only [List.cons.injEq, and_true] at h1
  obtain ⟨e1, e2, e3, e4, e5, e6, e7⟩ := h1
  obtain ⟨q1, h3⟩ := inj_all inj_ins _ _ ha.2.2.1.2 hb.2.2.1.2 (by omega) _ _ h2
  obtain ⟨q2, h4⟩ := inj_all inj_hnd _ _ ha.2.2.2.1.2 hb.2.2.2.1.2 (by omega) _ _ h3
  obtain ⟨q3, h5⟩ := inj_all inj_lno _ _ ha.2.2.2.2.2.1.2 hb.2.2.2.2.2.1.2 (by omega) _ _ h4
  obtain ⟨q4, h6⟩ := inj_all inj_slt _ _ ha.2.2.2.2.2.2.2 hb.2.2.2.2.2.2.2 (by omega) _ _ h5
  refine ⟨?_, h6⟩
  cases a; cases b
  simp_all
theorem inj_atr : InjOn Atr.good tlAtr := fun a b ha hb r s h => by
  simp only [tlAtr, Tl.add_assoc] at h
  obtain ⟨h1, h2⟩ := inj_ints (by simp) h
  simp only [List.cons.injEq, and_true] at h1
  obtain ⟨e1, e2⟩ := h1
  obtain ⟨q1, h3⟩ := inj_code _ _ ha.2.1 hb.2.1 _ _ h2
  obtain ⟨q2, h4⟩ := inj_val _ _ ha.2.2.1 hb.2.2.1 _ _ h3
  obtain ⟨q3, h5⟩ := inj_texts h4
  obtain ⟨q4, h6⟩ := inj_all inj_inr _ _ ha.2.2.2.2.1.2 hb.2.2.2.2.1.2 (by omega) _ _ h5
  obtain ⟨q5, h7⟩ := inj_texts h6
  refine ⟨?_, h7⟩
  cases a; cases b
  simp_all
theorem inj_mbr : InjOn Mbr.good tlMbr := fun a b ha hb r s h => by
  simp only [tlMbr, Tl.add_assoc] at h
  obtain ⟨h1, h2⟩ := inj_ints (by simp) h
  obtain ⟨h3, h4⟩ := inj_texts h2
  obtain ⟨q1, h5⟩ := inj_atr _ _ ha.2.2.2 hb.2.2.2 _ _ h4
  refine ⟨?_, h5⟩
  cases a; cases b
  simp_all
/-- The same list, the same class. -/
theorem cls_inj {a b : Cls} (ha : a.good) (hb : b.good) (h : tlCls a = tlCls b) : a = b := by
  have h0 : (tlCls a).add ([], []) = (tlCls b).add ([], []) := by rw [h]
  simp only [tlCls, Tl.add_assoc] at h0
  obtain ⟨h1, h2⟩ := inj_ints (by simp) h0
  simp only [List.cons.injEq, and_true] at h1
  obtain ⟨e1, e2, e3, e4, e5⟩ := h1
  obtain ⟨h3, h4⟩ := inj_texts h2
  obtain ⟨q1, h5⟩ := inj_texts h4
  have ga : ∀ x ∈ a.fields ++ a.methods, x.good := fun x hx => (List.mem_append.1 hx).elim (ha.2.2.2.2.2.2.1.2 x) (ha.2.2.2.2.2.2.2.1.2 x)
  have gb : ∀ x ∈ b.fields ++ b.methods, x.good := fun x hx => (List.mem_append.1 hx).elim (hb.2.2.2.2.2.2.1.2 x) (hb.2.2.2.2.2.2.2.1.2 x)
  obtain ⟨q2, h6⟩ := inj_all inj_mbr _ _ ga gb (by rw [List.length_append, List.length_append]; omega) _ _ h5
  obtain ⟨q3, q4⟩ := List.append_inj q2 (by omega)
  obtain ⟨q5, _⟩ := inj_atr _ _ ha.2.2.2.2.2.2.2.2 hb.2.2.2.2.2.2.2.2 _ _ h6
  cases a; cases b
  simp_all
end Go.Proofs.YtibogpidnnodnaaGreatDoor

/- The walk of layer 20's law: whether two classes are the same is what the document says. Printed by mk_law.py. -/
namespace Go.Proofs.YtibogpidnnodnaaGreatDoor
open Go.RowKit Go.Deep

theorem tells_val {p : Prop} {e : Ending} {d : Bool} (h : TellsB p e) (hd : d = true ↔ p) : e = .returned (.bool d) := by
  obtain ⟨b, rfl, hb⟩ := h
  have : b = d := by
    cases b <;> cases d <;> simp_all
  rw [this]
set_option maxHeartbeats 16000000 in
set_option maxRecDepth 100000 in
theorem checkSame_any (w : World) (a b : Cls) (ca cb : List Value) (ha : Cls.rd w ca a) (hb : Cls.rd w cb b) (hga : a.good) (hgb : b.good) (hba : a.blk ≤ 2000000) (hbb : b.blk ≤ 2000000) (hm : MaxP w) :
    Calls Tryz.prog 3 #[.agg ca.toArray, .agg cb.toArray] w fun e w' => e = .returned (.bool true) ∧ Below w.heap.size w w' := by
  have HRA := Lib.hid (fun w' (k : Below w.heap.size w w') => Cls.rd_grow ha k)
  have HRB := Lib.hid (fun w' (k : Below w.heap.size w w') => Cls.rd_grow hb k)
  have HSA := Lib.hid (show (tlCls a).size ≤ 100000000 from Nat.le_trans (size_cls a) (by omega))
  have HSB := Lib.hid (show (tlCls b).size ≤ 100000000 from Nat.le_trans (size_cls b) (by omega))
  obtain ⟨d, hd⟩ : ∃ d : Bool, d = true ↔ a = b := by
    by_cases e : a = b
    · exact ⟨true, fun _ => e, fun _ => rfl⟩
    · exact ⟨false, fun h => (by cases h), fun h => absurd h e⟩
  have HD := Lib.hid hd
  have HDS := Lib.hid (show d = true ↔ b = a from hd.trans ⟨Eq.symm, Eq.symm⟩)
  have HDT := Lib.hid (show d = true ↔ tlCls a = tlCls b from hd.trans ⟨fun e => by rw [e], cls_inj hga hgb⟩)
  clear hd hba hbb
  obtain ⟨A0, c0, A1, c1, A2, c2, A3, c3, A4, c4, A5, c5, A6, c6, A7, c7, A8, c8, rfl, _⟩ := Cls.leafs ha
  obtain ⟨B0, d0, B1, d1, B2, d2, B3, d3, B4, d4, B5, d5, B6, d6, B7, d7, B8, d8, rfl, _⟩ := Cls.leafs hb
  clear ha hb
  have k1 := (Below.refl w.heap.size w).alloc (Nat.le_refl _) (.cells #[.int .i64 a.minor, .int .i64 a.major, .int .i64 a.flags, .string (bs a.this), .string (bs a.super), .slice A0 a.faces.length c0, .slice A1 a.fields.length c1, .slice A2 a.methods.length c2, .int .i64 a.attrs.has, .int .i64 a.attrs.code.stack, .int .i64 a.attrs.code.locals, .slice A3 a.attrs.code.ops.length c3, .slice A4 a.attrs.code.handlers.length c4, .int .i64 a.attrs.code.has, .slice A5 a.attrs.code.lines.length c5, .slice A6 a.attrs.code.slots.length c6, .int .i64 a.attrs.value.tag, .string (bs a.attrs.value.text), .int .u64 a.attrs.value.bits, .string (bs a.attrs.value.cls), .string (bs a.attrs.value.name), .string (bs a.attrs.value.desc), .slice A7 a.attrs.throws.length c7, .slice A8 a.attrs.inners.length c8, .string (bs a.attrs.signature), .string (bs a.attrs.source)] 37)
  have k2 := (Below.refl (w.alloc (.cells #[.int .i64 a.minor, .int .i64 a.major, .int .i64 a.flags, .string (bs a.this), .string (bs a.super), .slice A0 a.faces.length c0, .slice A1 a.fields.length c1, .slice A2 a.methods.length c2, .int .i64 a.attrs.has, .int .i64 a.attrs.code.stack, .int .i64 a.attrs.code.locals, .slice A3 a.attrs.code.ops.length c3, .slice A4 a.attrs.code.handlers.length c4, .int .i64 a.attrs.code.has, .slice A5 a.attrs.code.lines.length c5, .slice A6 a.attrs.code.slots.length c6, .int .i64 a.attrs.value.tag, .string (bs a.attrs.value.text), .int .u64 a.attrs.value.bits, .string (bs a.attrs.value.cls), .string (bs a.attrs.value.name), .string (bs a.attrs.value.desc), .slice A7 a.attrs.throws.length c7, .slice A8 a.attrs.inners.length c8, .string (bs a.attrs.signature), .string (bs a.attrs.source)] 37)).heap.size (w.alloc (.cells #[.int .i64 a.minor, .int .i64 a.major, .int .i64 a.flags, .string (bs a.this), .string (bs a.super), .slice A0 a.faces.length c0, .slice A1 a.fields.length c1, .slice A2 a.methods.length c2, .int .i64 a.attrs.has, .int .i64 a.attrs.code.stack, .int .i64 a.attrs.code.locals, .slice A3 a.attrs.code.ops.length c3, .slice A4 a.attrs.code.handlers.length c4, .int .i64 a.attrs.code.has, .slice A5 a.attrs.code.lines.length c5, .slice A6 a.attrs.code.slots.length c6, .int .i64 a.attrs.value.tag, .string (bs a.attrs.value.text), .int .u64 a.attrs.value.bits, .string (bs a.attrs.value.cls), .string (bs a.attrs.value.name), .string (bs a.attrs.value.desc), .slice A7 a.attrs.throws.length c7, .slice A8 a.attrs.inners.length c8, .string (bs a.attrs.signature), .string (bs a.attrs.source)] 37))).alloc (Nat.le_refl _) (.cells #[.int .i64 b.minor, .int .i64 b.major, .int .i64 b.flags, .string (bs b.this), .string (bs b.super), .slice B0 b.faces.length d0, .slice B1 b.fields.length d1, .slice B2 b.methods.length d2, .int .i64 b.attrs.has, .int .i64 b.attrs.code.stack, .int .i64 b.attrs.code.locals, .slice B3 b.attrs.code.ops.length d3, .slice B4 b.attrs.code.handlers.length d4, .int .i64 b.attrs.code.has, .slice B5 b.attrs.code.lines.length d5, .slice B6 b.attrs.code.slots.length d6, .int .i64 b.attrs.value.tag, .string (bs b.attrs.value.text), .int .u64 b.attrs.value.bits, .string (bs b.attrs.value.cls), .string (bs b.attrs.value.name), .string (bs b.attrs.value.desc), .slice B7 b.attrs.throws.length d7, .slice B8 b.attrs.inners.length d8, .string (bs b.attrs.signature), .string (bs b.attrs.source)] 37)
  have X1 := Lib.hid ((k2.block _ (Array.getElem?_eq_some_iff.1 (heap_alloc_new w (.cells #[.int .i64 a.minor, .int .i64 a.major, .int .i64 a.flags, .string (bs a.this), .string (bs a.super), .slice A0 a.faces.length c0, .slice A1 a.fields.length c1, .slice A2 a.methods.length c2, .int .i64 a.attrs.has, .int .i64 a.attrs.code.stack, .int .i64 a.attrs.code.locals, .slice A3 a.attrs.code.ops.length c3, .slice A4 a.attrs.code.handlers.length c4, .int .i64 a.attrs.code.has, .slice A5 a.attrs.code.lines.length c5, .slice A6 a.attrs.code.slots.length c6, .int .i64 a.attrs.value.tag, .string (bs a.attrs.value.text), .int .u64 a.attrs.value.bits, .string (bs a.attrs.value.cls), .string (bs a.attrs.value.name), .string (bs a.attrs.value.desc), .slice A7 a.attrs.throws.length c7, .slice A8 a.attrs.inners.length c8, .string (bs a.attrs.signature), .string (bs a.attrs.source)] 37))).1).trans (heap_alloc_new w (.cells #[.int .i64 a.minor, .int .i64 a.major, .int .i64 a.flags, .string (bs a.this), .string (bs a.super), .slice A0 a.faces.length c0, .slice A1 a.fields.length c1, .slice A2 a.methods.length c2, .int .i64 a.attrs.has, .int .i64 a.attrs.code.stack, .int .i64 a.attrs.code.locals, .slice A3 a.attrs.code.ops.length c3, .slice A4 a.attrs.code.handlers.length c4, .int .i64 a.attrs.code.has, .slice A5 a.attrs.code.lines.length c5, .slice A6 a.attrs.code.slots.length c6, .int .i64 a.attrs.value.tag, .string (bs a.attrs.value.text), .int .u64 a.attrs.value.bits, .string (bs a.attrs.value.cls), .string (bs a.attrs.value.name), .string (bs a.attrs.value.desc), .slice A7 a.attrs.throws.length c7, .slice A8 a.attrs.inners.length c8, .string (bs a.attrs.signature), .string (bs a.attrs.source)] 37)))
  have X2 := Lib.hid (heap_alloc_new (w.alloc (.cells #[.int .i64 a.minor, .int .i64 a.major, .int .i64 a.flags, .string (bs a.this), .string (bs a.super), .slice A0 a.faces.length c0, .slice A1 a.fields.length c1, .slice A2 a.methods.length c2, .int .i64 a.attrs.has, .int .i64 a.attrs.code.stack, .int .i64 a.attrs.code.locals, .slice A3 a.attrs.code.ops.length c3, .slice A4 a.attrs.code.handlers.length c4, .int .i64 a.attrs.code.has, .slice A5 a.attrs.code.lines.length c5, .slice A6 a.attrs.code.slots.length c6, .int .i64 a.attrs.value.tag, .string (bs a.attrs.value.text), .int .u64 a.attrs.value.bits, .string (bs a.attrs.value.cls), .string (bs a.attrs.value.name), .string (bs a.attrs.value.desc), .slice A7 a.attrs.throws.length c7, .slice A8 a.attrs.inners.length c8, .string (bs a.attrs.signature), .string (bs a.attrs.source)] 37)) (.cells #[.int .i64 b.minor, .int .i64 b.major, .int .i64 b.flags, .string (bs b.this), .string (bs b.super), .slice B0 b.faces.length d0, .slice B1 b.fields.length d1, .slice B2 b.methods.length d2, .int .i64 b.attrs.has, .int .i64 b.attrs.code.stack, .int .i64 b.attrs.code.locals, .slice B3 b.attrs.code.ops.length d3, .slice B4 b.attrs.code.handlers.length d4, .int .i64 b.attrs.code.has, .slice B5 b.attrs.code.lines.length d5, .slice B6 b.attrs.code.slots.length d6, .int .i64 b.attrs.value.tag, .string (bs b.attrs.value.text), .int .u64 b.attrs.value.bits, .string (bs b.attrs.value.cls), .string (bs b.attrs.value.name), .string (bs b.attrs.value.desc), .slice B7 b.attrs.throws.length d7, .slice B8 b.attrs.inners.length d8, .string (bs b.attrs.signature), .string (bs b.attrs.source)] 37))
  have K := Lib.hid (k1.trans (k2.mono k1.size))
  have hs1 : (w.alloc (.cells #[.int .i64 a.minor, .int .i64 a.major, .int .i64 a.flags, .string (bs a.this), .string (bs a.super), .slice A0 a.faces.length c0, .slice A1 a.fields.length c1, .slice A2 a.methods.length c2, .int .i64 a.attrs.has, .int .i64 a.attrs.code.stack, .int .i64 a.attrs.code.locals, .slice A3 a.attrs.code.ops.length c3, .slice A4 a.attrs.code.handlers.length c4, .int .i64 a.attrs.code.has, .slice A5 a.attrs.code.lines.length c5, .slice A6 a.attrs.code.slots.length c6, .int .i64 a.attrs.value.tag, .string (bs a.attrs.value.text), .int .u64 a.attrs.value.bits, .string (bs a.attrs.value.cls), .string (bs a.attrs.value.name), .string (bs a.attrs.value.desc), .slice A7 a.attrs.throws.length c7, .slice A8 a.attrs.inners.length c8, .string (bs a.attrs.signature), .string (bs a.attrs.source)] 37)).heap.size = w.heap.size + 1 := by show (w.heap.push _).size = _; simp
  rw [hs1] at X2
  clear k1 k2 hs1
  go_enter Tryz.func3, Tryz.ntmps3
  go_upto_region 1 with fail
  generalize (w.alloc (.cells #[.int .i64 a.minor, .int .i64 a.major, .int .i64 a.flags, .string (bs a.this), .string (bs a.super), .slice A0 a.faces.length c0, .slice A1 a.fields.length c1, .slice A2 a.methods.length c2, .int .i64 a.attrs.has, .int .i64 a.attrs.code.stack, .int .i64 a.attrs.code.locals, .slice A3 a.attrs.code.ops.length c3, .slice A4 a.attrs.code.handlers.length c4, .int .i64 a.attrs.code.has, .slice A5 a.attrs.code.lines.length c5, .slice A6 a.attrs.code.slots.length c6, .int .i64 a.attrs.value.tag, .string (bs a.attrs.value.text), .int .u64 a.attrs.value.bits, .string (bs a.attrs.value.cls), .string (bs a.attrs.value.name), .string (bs a.attrs.value.desc), .slice A7 a.attrs.throws.length c7, .slice A8 a.attrs.inners.length c8, .string (bs a.attrs.signature), .string (bs a.attrs.source)] 37)).alloc (.cells #[.int .i64 b.minor, .int .i64 b.major, .int .i64 b.flags, .string (bs b.this), .string (bs b.super), .slice B0 b.faces.length d0, .slice B1 b.fields.length d1, .slice B2 b.methods.length d2, .int .i64 b.attrs.has, .int .i64 b.attrs.code.stack, .int .i64 b.attrs.code.locals, .slice B3 b.attrs.code.ops.length d3, .slice B4 b.attrs.code.handlers.length d4, .int .i64 b.attrs.code.has, .slice B5 b.attrs.code.lines.length d5, .slice B6 b.attrs.code.slots.length d6, .int .i64 b.attrs.value.tag, .string (bs b.attrs.value.text), .int .u64 b.attrs.value.bits, .string (bs b.attrs.value.cls), .string (bs b.attrs.value.name), .string (bs b.attrs.value.desc), .slice B7 b.attrs.throws.length d7, .slice B8 b.attrs.inners.length d8, .string (bs b.attrs.signature), .string (bs b.attrs.source)] 37) = W at X1 X2 K ⊢
  have CF := Lib.hid (fixed20_any W (max_below hm K.out))
  go_wp2_with fail
  refine CF.out.mono ?_
  rintro e w1 ⟨rfl, hb1⟩
  have Y1 := Lib.hid ((hb1.block _ (Array.getElem?_eq_some_iff.1 X1.out).1).trans X1.out)
  have Y2 := Lib.hid ((hb1.block _ (Array.getElem?_eq_some_iff.1 X2.out).1).trans X2.out)
  have K1 := Lib.hid (K.out.trans (hb1.mono K.out.size))
  clear hb1 CF X1 X2 K hm
  have hcl : (Tryz.prog.info? 37).map (·.size) = some 26 := by kernel_rfl
  have HLA := Lib.hid (show CellsAt w1 w.heap.size 0 [.int .i64 a.minor, .int .i64 a.major, .int .i64 a.flags, .string (bs a.this), .string (bs a.super), .slice A0 a.faces.length c0, .slice A1 a.fields.length c1, .slice A2 a.methods.length c2, .int .i64 a.attrs.has, .int .i64 a.attrs.code.stack, .int .i64 a.attrs.code.locals, .slice A3 a.attrs.code.ops.length c3, .slice A4 a.attrs.code.handlers.length c4, .int .i64 a.attrs.code.has, .slice A5 a.attrs.code.lines.length c5, .slice A6 a.attrs.code.slots.length c6, .int .i64 a.attrs.value.tag, .string (bs a.attrs.value.text), .int .u64 a.attrs.value.bits, .string (bs a.attrs.value.cls), .string (bs a.attrs.value.name), .string (bs a.attrs.value.desc), .slice A7 a.attrs.throws.length c7, .slice A8 a.attrs.inners.length c8, .string (bs a.attrs.signature), .string (bs a.attrs.source)] from cellsAt_block Y1.out 0 26)
  have CA := Lib.hid (few_any w1 a _ (HRA.out w1 K1.out) hga HSA.out)
  go_wp2_with (refine wpList_load_cellsW (by rfl) 37 _ rfl w.heap.size 0 rfl _ HLA.out _ Tryz.underlying37 rfl hcl ?_)
  refine CA.out.mono ?_
  rintro e w2 ⟨rfl, hb2⟩
  have Z1 := Lib.hid ((hb2.block _ (Array.getElem?_eq_some_iff.1 Y1.out).1).trans Y1.out)
  have Z2 := Lib.hid ((hb2.block _ (Array.getElem?_eq_some_iff.1 Y2.out).1).trans Y2.out)
  have K2 := Lib.hid (K1.out.trans (hb2.mono K1.out.size))
  clear hb2 CA Y1 Y2 K1 HLA
  cases hfa : (tlCls a).few with
  | false =>
    as_aux_lemma =>
    go_wp2_with fail
    go_ret
    exact ⟨rfl, K2.out⟩
  | true =>
  have HLB := Lib.hid (show CellsAt w2 (w.heap.size + 1) 0 [.int .i64 b.minor, .int .i64 b.major, .int .i64 b.flags, .string (bs b.this), .string (bs b.super), .slice B0 b.faces.length d0, .slice B1 b.fields.length d1, .slice B2 b.methods.length d2, .int .i64 b.attrs.has, .int .i64 b.attrs.code.stack, .int .i64 b.attrs.code.locals, .slice B3 b.attrs.code.ops.length d3, .slice B4 b.attrs.code.handlers.length d4, .int .i64 b.attrs.code.has, .slice B5 b.attrs.code.lines.length d5, .slice B6 b.attrs.code.slots.length d6, .int .i64 b.attrs.value.tag, .string (bs b.attrs.value.text), .int .u64 b.attrs.value.bits, .string (bs b.attrs.value.cls), .string (bs b.attrs.value.name), .string (bs b.attrs.value.desc), .slice B7 b.attrs.throws.length d7, .slice B8 b.attrs.inners.length d8, .string (bs b.attrs.signature), .string (bs b.attrs.source)] from cellsAt_block Z2.out 0 26)
  have CB := Lib.hid (few_any w2 b _ (HRB.out w2 K2.out) hgb HSB.out)
  go_wp2_with (refine wpList_load_cellsW (by rfl) 37 _ rfl (w.heap.size + 1) 0 rfl _ HLB.out _ Tryz.underlying37 rfl hcl ?_)
  refine CB.out.mono ?_
  rintro e w3 ⟨rfl, hb3⟩
  have V1 := Lib.hid ((hb3.block _ (Array.getElem?_eq_some_iff.1 Z1.out).1).trans Z1.out)
  have V2 := Lib.hid ((hb3.block _ (Array.getElem?_eq_some_iff.1 Z2.out).1).trans Z2.out)
  have K3 := Lib.hid (K2.out.trans (hb3.mono K2.out.size))
  clear hb3 CB Z1 Z2 K2 HLB hfa
  cases hfb : (tlCls b).few with
  | false =>
    as_aux_lemma =>
    go_wp2_with fail
    go_ret
    exact ⟨rfl, K3.out⟩
  | true =>
  clear hfb
  go_upto_region 5 with fail
  have z1 : w.heap.size < w3.drew.heap.size := (Array.getElem?_eq_some_iff.1 V1.out).1
  have z2 : w.heap.size + 1 < w3.drew.heap.size := (Array.getElem?_eq_some_iff.1 V2.out).1
  have HCA := Lib.hid (fun x (hx : Below w3.drew.heap.size w3.drew x) => (show CellsAt w3.drew w.heap.size 0 [.int .i64 a.minor, .int .i64 a.major, .int .i64 a.flags, .string (bs a.this), .string (bs a.super), .slice A0 a.faces.length c0, .slice A1 a.fields.length c1, .slice A2 a.methods.length c2, .int .i64 a.attrs.has, .int .i64 a.attrs.code.stack, .int .i64 a.attrs.code.locals, .slice A3 a.attrs.code.ops.length c3, .slice A4 a.attrs.code.handlers.length c4, .int .i64 a.attrs.code.has, .slice A5 a.attrs.code.lines.length c5, .slice A6 a.attrs.code.slots.length c6, .int .i64 a.attrs.value.tag, .string (bs a.attrs.value.text), .int .u64 a.attrs.value.bits, .string (bs a.attrs.value.cls), .string (bs a.attrs.value.name), .string (bs a.attrs.value.desc), .slice A7 a.attrs.throws.length c7, .slice A8 a.attrs.inners.length c8, .string (bs a.attrs.signature), .string (bs a.attrs.source)] from cellsAt_block (w := w3.drew) V1.out 0 26).grow hx z1)
  have HCB := Lib.hid (fun x (hx : Below w3.drew.heap.size w3.drew x) => (show CellsAt w3.drew (w.heap.size + 1) 0 [.int .i64 b.minor, .int .i64 b.major, .int .i64 b.flags, .string (bs b.this), .string (bs b.super), .slice B0 b.faces.length d0, .slice B1 b.fields.length d1, .slice B2 b.methods.length d2, .int .i64 b.attrs.has, .int .i64 b.attrs.code.stack, .int .i64 b.attrs.code.locals, .slice B3 b.attrs.code.ops.length d3, .slice B4 b.attrs.code.handlers.length d4, .int .i64 b.attrs.code.has, .slice B5 b.attrs.code.lines.length d5, .slice B6 b.attrs.code.slots.length d6, .int .i64 b.attrs.value.tag, .string (bs b.attrs.value.text), .int .u64 b.attrs.value.bits, .string (bs b.attrs.value.cls), .string (bs b.attrs.value.name), .string (bs b.attrs.value.desc), .slice B7 b.attrs.throws.length d7, .slice B8 b.attrs.inners.length d8, .string (bs b.attrs.signature), .string (bs b.attrs.source)] from cellsAt_block (w := w3.drew) V2.out 0 26).grow hx z2)
  have HR1 := Lib.hid (fun x (hx : Below w3.drew.heap.size w3.drew x) => HRA.out x (K3.out.drew.trans (hx.mono K3.out.size)))
  have HR2 := Lib.hid (fun x (hx : Below w3.drew.heap.size w3.drew x) => HRB.out x (K3.out.drew.trans (hx.mono K3.out.size)))
  have hdd : (d == d) = true := by cases d <;> rfl
  clear V1 V2 HRA HRB
  as_aux_lemma =>
  refine OrdD.wp_region_ord (fr := fun _ => 0) (Ψ := fun _ _ => True) 21 (by kernel_rfl) (by kernel_rfl) (fun _ _ d _ _ h => by cases d <;> exact h) ?_
  try simp only [List.take_succ_cons, List.take_zero, List.drop_succ_cons, List.drop_zero]
  refine OrdD.lex_val rfl rfl (.agg #[.int .i64 a.minor, .int .i64 a.major, .int .i64 a.flags, .string (bs a.this), .string (bs a.super), .slice A0 a.faces.length c0, .slice A1 a.fields.length c1, .slice A2 a.methods.length c2, .int .i64 a.attrs.has, .int .i64 a.attrs.code.stack, .int .i64 a.attrs.code.locals, .slice A3 a.attrs.code.ops.length c3, .slice A4 a.attrs.code.handlers.length c4, .int .i64 a.attrs.code.has, .slice A5 a.attrs.code.lines.length c5, .slice A6 a.attrs.code.slots.length c6, .int .i64 a.attrs.value.tag, .string (bs a.attrs.value.text), .int .u64 a.attrs.value.bits, .string (bs a.attrs.value.cls), .string (bs a.attrs.value.name), .string (bs a.attrs.value.desc), .slice A7 a.attrs.throws.length c7, .slice A8 a.attrs.inners.length c8, .string (bs a.attrs.signature), .string (bs a.attrs.source)]) (fun x hx => run_load_cells 37 _ rfl w.heap.size 0 rfl _ (HCA.out x hx.below) _ Tryz.underlying37 rfl hcl) ?_
  simp only [Act.put, List.setIfInBounds_toArray, List.set_cons_zero, List.set_cons_succ]
  refine OrdD.lex_val rfl rfl (.agg #[.int .i64 b.minor, .int .i64 b.major, .int .i64 b.flags, .string (bs b.this), .string (bs b.super), .slice B0 b.faces.length d0, .slice B1 b.fields.length d1, .slice B2 b.methods.length d2, .int .i64 b.attrs.has, .int .i64 b.attrs.code.stack, .int .i64 b.attrs.code.locals, .slice B3 b.attrs.code.ops.length d3, .slice B4 b.attrs.code.handlers.length d4, .int .i64 b.attrs.code.has, .slice B5 b.attrs.code.lines.length d5, .slice B6 b.attrs.code.slots.length d6, .int .i64 b.attrs.value.tag, .string (bs b.attrs.value.text), .int .u64 b.attrs.value.bits, .string (bs b.attrs.value.cls), .string (bs b.attrs.value.name), .string (bs b.attrs.value.desc), .slice B7 b.attrs.throws.length d7, .slice B8 b.attrs.inners.length d8, .string (bs b.attrs.signature), .string (bs b.attrs.source)]) (fun x hx => run_load_cells 37 _ rfl (w.heap.size + 1) 0 rfl _ (HCB.out x hx.below) _ Tryz.underlying37 rfl hcl) ?_
  simp only [Act.put, List.setIfInBounds_toArray, List.set_cons_zero, List.set_cons_succ]
  refine OrdD.lex_callv rfl rfl 6 #[.agg #[.int .i64 a.minor, .int .i64 a.major, .int .i64 a.flags, .string (bs a.this), .string (bs a.super), .slice A0 a.faces.length c0, .slice A1 a.fields.length c1, .slice A2 a.methods.length c2, .int .i64 a.attrs.has, .int .i64 a.attrs.code.stack, .int .i64 a.attrs.code.locals, .slice A3 a.attrs.code.ops.length c3, .slice A4 a.attrs.code.handlers.length c4, .int .i64 a.attrs.code.has, .slice A5 a.attrs.code.lines.length c5, .slice A6 a.attrs.code.slots.length c6, .int .i64 a.attrs.value.tag, .string (bs a.attrs.value.text), .int .u64 a.attrs.value.bits, .string (bs a.attrs.value.cls), .string (bs a.attrs.value.name), .string (bs a.attrs.value.desc), .slice A7 a.attrs.throws.length c7, .slice A8 a.attrs.inners.length c8, .string (bs a.attrs.signature), .string (bs a.attrs.source)], .agg #[.int .i64 b.minor, .int .i64 b.major, .int .i64 b.flags, .string (bs b.this), .string (bs b.super), .slice B0 b.faces.length d0, .slice B1 b.fields.length d1, .slice B2 b.methods.length d2, .int .i64 b.attrs.has, .int .i64 b.attrs.code.stack, .int .i64 b.attrs.code.locals, .slice B3 b.attrs.code.ops.length d3, .slice B4 b.attrs.code.handlers.length d4, .int .i64 b.attrs.code.has, .slice B5 b.attrs.code.lines.length d5, .slice B6 b.attrs.code.slots.length d6, .int .i64 b.attrs.value.tag, .string (bs b.attrs.value.text), .int .u64 b.attrs.value.bits, .string (bs b.attrs.value.cls), .string (bs b.attrs.value.name), .string (bs b.attrs.value.desc), .slice B7 b.attrs.throws.length d7, .slice B8 b.attrs.inners.length d8, .string (bs b.attrs.signature), .string (bs b.attrs.source)]] (.bool d) (fun x hx => by go_simp) (fun x hx => (Same_any x a b _ _ (HR1.out x hx.below) (HR2.out x hx.below) hga hgb).mono (fun e y h => ⟨tells_val h.1 HD.out, h.2⟩)) ?_
  simp only [Act.put, List.setIfInBounds_toArray, List.set_cons_zero, List.set_cons_succ]
  refine OrdD.lex_val rfl rfl (.agg #[.int .i64 a.minor, .int .i64 a.major, .int .i64 a.flags, .string (bs a.this), .string (bs a.super), .slice A0 a.faces.length c0, .slice A1 a.fields.length c1, .slice A2 a.methods.length c2, .int .i64 a.attrs.has, .int .i64 a.attrs.code.stack, .int .i64 a.attrs.code.locals, .slice A3 a.attrs.code.ops.length c3, .slice A4 a.attrs.code.handlers.length c4, .int .i64 a.attrs.code.has, .slice A5 a.attrs.code.lines.length c5, .slice A6 a.attrs.code.slots.length c6, .int .i64 a.attrs.value.tag, .string (bs a.attrs.value.text), .int .u64 a.attrs.value.bits, .string (bs a.attrs.value.cls), .string (bs a.attrs.value.name), .string (bs a.attrs.value.desc), .slice A7 a.attrs.throws.length c7, .slice A8 a.attrs.inners.length c8, .string (bs a.attrs.signature), .string (bs a.attrs.source)]) (fun x hx => run_load_cells 37 _ rfl w.heap.size 0 rfl _ (HCA.out x hx.below) _ Tryz.underlying37 rfl hcl) ?_
  simp only [Act.put, List.setIfInBounds_toArray, List.set_cons_zero, List.set_cons_succ]
  refine OrdD.lex_val rfl rfl (.agg #[.int .i64 b.minor, .int .i64 b.major, .int .i64 b.flags, .string (bs b.this), .string (bs b.super), .slice B0 b.faces.length d0, .slice B1 b.fields.length d1, .slice B2 b.methods.length d2, .int .i64 b.attrs.has, .int .i64 b.attrs.code.stack, .int .i64 b.attrs.code.locals, .slice B3 b.attrs.code.ops.length d3, .slice B4 b.attrs.code.handlers.length d4, .int .i64 b.attrs.code.has, .slice B5 b.attrs.code.lines.length d5, .slice B6 b.attrs.code.slots.length d6, .int .i64 b.attrs.value.tag, .string (bs b.attrs.value.text), .int .u64 b.attrs.value.bits, .string (bs b.attrs.value.cls), .string (bs b.attrs.value.name), .string (bs b.attrs.value.desc), .slice B7 b.attrs.throws.length d7, .slice B8 b.attrs.inners.length d8, .string (bs b.attrs.signature), .string (bs b.attrs.source)]) (fun x hx => run_load_cells 37 _ rfl (w.heap.size + 1) 0 rfl _ (HCB.out x hx.below) _ Tryz.underlying37 rfl hcl) ?_
  simp only [Act.put, List.setIfInBounds_toArray, List.set_cons_zero, List.set_cons_succ]
  refine OrdD.lex_callv rfl rfl 7 #[.agg #[.int .i64 a.minor, .int .i64 a.major, .int .i64 a.flags, .string (bs a.this), .string (bs a.super), .slice A0 a.faces.length c0, .slice A1 a.fields.length c1, .slice A2 a.methods.length c2, .int .i64 a.attrs.has, .int .i64 a.attrs.code.stack, .int .i64 a.attrs.code.locals, .slice A3 a.attrs.code.ops.length c3, .slice A4 a.attrs.code.handlers.length c4, .int .i64 a.attrs.code.has, .slice A5 a.attrs.code.lines.length c5, .slice A6 a.attrs.code.slots.length c6, .int .i64 a.attrs.value.tag, .string (bs a.attrs.value.text), .int .u64 a.attrs.value.bits, .string (bs a.attrs.value.cls), .string (bs a.attrs.value.name), .string (bs a.attrs.value.desc), .slice A7 a.attrs.throws.length c7, .slice A8 a.attrs.inners.length c8, .string (bs a.attrs.signature), .string (bs a.attrs.source)], .agg #[.int .i64 b.minor, .int .i64 b.major, .int .i64 b.flags, .string (bs b.this), .string (bs b.super), .slice B0 b.faces.length d0, .slice B1 b.fields.length d1, .slice B2 b.methods.length d2, .int .i64 b.attrs.has, .int .i64 b.attrs.code.stack, .int .i64 b.attrs.code.locals, .slice B3 b.attrs.code.ops.length d3, .slice B4 b.attrs.code.handlers.length d4, .int .i64 b.attrs.code.has, .slice B5 b.attrs.code.lines.length d5, .slice B6 b.attrs.code.slots.length d6, .int .i64 b.attrs.value.tag, .string (bs b.attrs.value.text), .int .u64 b.attrs.value.bits, .string (bs b.attrs.value.cls), .string (bs b.attrs.value.name), .string (bs b.attrs.value.desc), .slice B7 b.attrs.throws.length d7, .slice B8 b.attrs.inners.length d8, .string (bs b.attrs.signature), .string (bs b.attrs.source)]] (.bool d) (fun x hx => by go_simp) (fun x hx => (rsame20_any x a b _ _ (HR1.out x hx.below) (HR2.out x hx.below) hga hgb HSA.out HSB.out).mono (fun e y h => ⟨tells_val h.1 HDT.out, h.2⟩)) ?_
  simp only [Act.put, List.setIfInBounds_toArray, List.set_cons_zero, List.set_cons_succ]
  try simp only [List.take_succ_cons, List.take_zero, List.drop_succ_cons, List.drop_zero]
  repeat (first | (refine OrdD.wpLex_skip rfl rfl ?_; simp only [Act.put, List.setIfInBounds_toArray, List.set_cons_zero, List.set_cons_succ]) | (refine OrdD.wpLex_fix rfl rfl ?_; intro F hF R hR hne K hK; go_big_quiet_op; first | (go_big_quiet_on; clear hne hR R hF F) | (apply Exists.intro; refine ⟨fun g => ?_, ?_⟩; (((fail))); go_big_quiet_on; clear hne hR R hF F)) | (apply OrdD.wpLex_blk rfl rfl; (focus (intro x hx; go_simp; exact ⟨rfl, rfl⟩)); intro B hB; simp only [Act.put, blkVal, List.setIfInBounds_toArray, List.set_cons_zero, List.set_cons_succ]))
  refine OrdD.lex_val rfl rfl (.agg #[.int .i64 a.minor, .int .i64 a.major, .int .i64 a.flags, .string (bs a.this), .string (bs a.super), .slice A0 a.faces.length c0, .slice A1 a.fields.length c1, .slice A2 a.methods.length c2, .int .i64 a.attrs.has, .int .i64 a.attrs.code.stack, .int .i64 a.attrs.code.locals, .slice A3 a.attrs.code.ops.length c3, .slice A4 a.attrs.code.handlers.length c4, .int .i64 a.attrs.code.has, .slice A5 a.attrs.code.lines.length c5, .slice A6 a.attrs.code.slots.length c6, .int .i64 a.attrs.value.tag, .string (bs a.attrs.value.text), .int .u64 a.attrs.value.bits, .string (bs a.attrs.value.cls), .string (bs a.attrs.value.name), .string (bs a.attrs.value.desc), .slice A7 a.attrs.throws.length c7, .slice A8 a.attrs.inners.length c8, .string (bs a.attrs.signature), .string (bs a.attrs.source)]) (fun x hx => run_load_cells 37 _ rfl w.heap.size 0 rfl _ (HCA.out x hx.below) _ Tryz.underlying37 rfl hcl) ?_
  simp only [Act.put, List.setIfInBounds_toArray, List.set_cons_zero, List.set_cons_succ]
  refine OrdD.lex_val rfl rfl (.agg #[.int .i64 a.minor, .int .i64 a.major, .int .i64 a.flags, .string (bs a.this), .string (bs a.super), .slice A0 a.faces.length c0, .slice A1 a.fields.length c1, .slice A2 a.methods.length c2, .int .i64 a.attrs.has, .int .i64 a.attrs.code.stack, .int .i64 a.attrs.code.locals, .slice A3 a.attrs.code.ops.length c3, .slice A4 a.attrs.code.handlers.length c4, .int .i64 a.attrs.code.has, .slice A5 a.attrs.code.lines.length c5, .slice A6 a.attrs.code.slots.length c6, .int .i64 a.attrs.value.tag, .string (bs a.attrs.value.text), .int .u64 a.attrs.value.bits, .string (bs a.attrs.value.cls), .string (bs a.attrs.value.name), .string (bs a.attrs.value.desc), .slice A7 a.attrs.throws.length c7, .slice A8 a.attrs.inners.length c8, .string (bs a.attrs.signature), .string (bs a.attrs.source)]) (fun x hx => run_load_cells 37 _ rfl w.heap.size 0 rfl _ (HCA.out x hx.below) _ Tryz.underlying37 rfl hcl) ?_
  simp only [Act.put, List.setIfInBounds_toArray, List.set_cons_zero, List.set_cons_succ]
  refine OrdD.lex_callv rfl rfl 6 #[.agg #[.int .i64 a.minor, .int .i64 a.major, .int .i64 a.flags, .string (bs a.this), .string (bs a.super), .slice A0 a.faces.length c0, .slice A1 a.fields.length c1, .slice A2 a.methods.length c2, .int .i64 a.attrs.has, .int .i64 a.attrs.code.stack, .int .i64 a.attrs.code.locals, .slice A3 a.attrs.code.ops.length c3, .slice A4 a.attrs.code.handlers.length c4, .int .i64 a.attrs.code.has, .slice A5 a.attrs.code.lines.length c5, .slice A6 a.attrs.code.slots.length c6, .int .i64 a.attrs.value.tag, .string (bs a.attrs.value.text), .int .u64 a.attrs.value.bits, .string (bs a.attrs.value.cls), .string (bs a.attrs.value.name), .string (bs a.attrs.value.desc), .slice A7 a.attrs.throws.length c7, .slice A8 a.attrs.inners.length c8, .string (bs a.attrs.signature), .string (bs a.attrs.source)], .agg #[.int .i64 a.minor, .int .i64 a.major, .int .i64 a.flags, .string (bs a.this), .string (bs a.super), .slice A0 a.faces.length c0, .slice A1 a.fields.length c1, .slice A2 a.methods.length c2, .int .i64 a.attrs.has, .int .i64 a.attrs.code.stack, .int .i64 a.attrs.code.locals, .slice A3 a.attrs.code.ops.length c3, .slice A4 a.attrs.code.handlers.length c4, .int .i64 a.attrs.code.has, .slice A5 a.attrs.code.lines.length c5, .slice A6 a.attrs.code.slots.length c6, .int .i64 a.attrs.value.tag, .string (bs a.attrs.value.text), .int .u64 a.attrs.value.bits, .string (bs a.attrs.value.cls), .string (bs a.attrs.value.name), .string (bs a.attrs.value.desc), .slice A7 a.attrs.throws.length c7, .slice A8 a.attrs.inners.length c8, .string (bs a.attrs.signature), .string (bs a.attrs.source)]] (.bool true) (fun x hx => by go_simp) (fun x hx => (Same_any x a a _ _ (HR1.out x hx.below) (HR1.out x hx.below) hga hga).mono (fun e y h => ⟨tells_val h.1 ⟨fun _ => rfl, fun _ => rfl⟩, h.2⟩)) ?_
  simp only [Act.put, List.setIfInBounds_toArray, List.set_cons_zero, List.set_cons_succ]
  try simp only [List.take_succ_cons, List.take_zero, List.drop_succ_cons, List.drop_zero]
  repeat (first | (refine OrdD.wpLex_skip rfl rfl ?_; simp only [Act.put, List.setIfInBounds_toArray, List.set_cons_zero, List.set_cons_succ]) | (refine OrdD.wpLex_fix rfl rfl ?_; intro F hF R hR hne K hK; go_big_quiet_op; first | (go_big_quiet_on; clear hne hR R hF F) | (apply Exists.intro; refine ⟨fun g => ?_, ?_⟩; (((fail))); go_big_quiet_on; clear hne hR R hF F)) | (apply OrdD.wpLex_blk rfl rfl; (focus (intro x hx; go_simp; exact ⟨rfl, rfl⟩)); intro B hB; simp only [Act.put, blkVal, List.setIfInBounds_toArray, List.set_cons_zero, List.set_cons_succ]))
  refine OrdD.lex_val rfl rfl (.agg #[.int .i64 b.minor, .int .i64 b.major, .int .i64 b.flags, .string (bs b.this), .string (bs b.super), .slice B0 b.faces.length d0, .slice B1 b.fields.length d1, .slice B2 b.methods.length d2, .int .i64 b.attrs.has, .int .i64 b.attrs.code.stack, .int .i64 b.attrs.code.locals, .slice B3 b.attrs.code.ops.length d3, .slice B4 b.attrs.code.handlers.length d4, .int .i64 b.attrs.code.has, .slice B5 b.attrs.code.lines.length d5, .slice B6 b.attrs.code.slots.length d6, .int .i64 b.attrs.value.tag, .string (bs b.attrs.value.text), .int .u64 b.attrs.value.bits, .string (bs b.attrs.value.cls), .string (bs b.attrs.value.name), .string (bs b.attrs.value.desc), .slice B7 b.attrs.throws.length d7, .slice B8 b.attrs.inners.length d8, .string (bs b.attrs.signature), .string (bs b.attrs.source)]) (fun x hx => run_load_cells 37 _ rfl (w.heap.size + 1) 0 rfl _ (HCB.out x hx.below) _ Tryz.underlying37 rfl hcl) ?_
  simp only [Act.put, List.setIfInBounds_toArray, List.set_cons_zero, List.set_cons_succ]
  refine OrdD.lex_val rfl rfl (.agg #[.int .i64 a.minor, .int .i64 a.major, .int .i64 a.flags, .string (bs a.this), .string (bs a.super), .slice A0 a.faces.length c0, .slice A1 a.fields.length c1, .slice A2 a.methods.length c2, .int .i64 a.attrs.has, .int .i64 a.attrs.code.stack, .int .i64 a.attrs.code.locals, .slice A3 a.attrs.code.ops.length c3, .slice A4 a.attrs.code.handlers.length c4, .int .i64 a.attrs.code.has, .slice A5 a.attrs.code.lines.length c5, .slice A6 a.attrs.code.slots.length c6, .int .i64 a.attrs.value.tag, .string (bs a.attrs.value.text), .int .u64 a.attrs.value.bits, .string (bs a.attrs.value.cls), .string (bs a.attrs.value.name), .string (bs a.attrs.value.desc), .slice A7 a.attrs.throws.length c7, .slice A8 a.attrs.inners.length c8, .string (bs a.attrs.signature), .string (bs a.attrs.source)]) (fun x hx => run_load_cells 37 _ rfl w.heap.size 0 rfl _ (HCA.out x hx.below) _ Tryz.underlying37 rfl hcl) ?_
  simp only [Act.put, List.setIfInBounds_toArray, List.set_cons_zero, List.set_cons_succ]
  refine OrdD.lex_callv rfl rfl 6 #[.agg #[.int .i64 b.minor, .int .i64 b.major, .int .i64 b.flags, .string (bs b.this), .string (bs b.super), .slice B0 b.faces.length d0, .slice B1 b.fields.length d1, .slice B2 b.methods.length d2, .int .i64 b.attrs.has, .int .i64 b.attrs.code.stack, .int .i64 b.attrs.code.locals, .slice B3 b.attrs.code.ops.length d3, .slice B4 b.attrs.code.handlers.length d4, .int .i64 b.attrs.code.has, .slice B5 b.attrs.code.lines.length d5, .slice B6 b.attrs.code.slots.length d6, .int .i64 b.attrs.value.tag, .string (bs b.attrs.value.text), .int .u64 b.attrs.value.bits, .string (bs b.attrs.value.cls), .string (bs b.attrs.value.name), .string (bs b.attrs.value.desc), .slice B7 b.attrs.throws.length d7, .slice B8 b.attrs.inners.length d8, .string (bs b.attrs.signature), .string (bs b.attrs.source)], .agg #[.int .i64 a.minor, .int .i64 a.major, .int .i64 a.flags, .string (bs a.this), .string (bs a.super), .slice A0 a.faces.length c0, .slice A1 a.fields.length c1, .slice A2 a.methods.length c2, .int .i64 a.attrs.has, .int .i64 a.attrs.code.stack, .int .i64 a.attrs.code.locals, .slice A3 a.attrs.code.ops.length c3, .slice A4 a.attrs.code.handlers.length c4, .int .i64 a.attrs.code.has, .slice A5 a.attrs.code.lines.length c5, .slice A6 a.attrs.code.slots.length c6, .int .i64 a.attrs.value.tag, .string (bs a.attrs.value.text), .int .u64 a.attrs.value.bits, .string (bs a.attrs.value.cls), .string (bs a.attrs.value.name), .string (bs a.attrs.value.desc), .slice A7 a.attrs.throws.length c7, .slice A8 a.attrs.inners.length c8, .string (bs a.attrs.signature), .string (bs a.attrs.source)]] (.bool d) (fun x hx => by go_simp) (fun x hx => (Same_any x b a _ _ (HR2.out x hx.below) (HR1.out x hx.below) hgb hga).mono (fun e y h => ⟨tells_val h.1 HDS.out, h.2⟩)) ?_
  simp only [Act.put, List.setIfInBounds_toArray, List.set_cons_zero, List.set_cons_succ]
  refine OrdD.lex_val rfl rfl (.agg #[.int .i64 a.minor, .int .i64 a.major, .int .i64 a.flags, .string (bs a.this), .string (bs a.super), .slice A0 a.faces.length c0, .slice A1 a.fields.length c1, .slice A2 a.methods.length c2, .int .i64 a.attrs.has, .int .i64 a.attrs.code.stack, .int .i64 a.attrs.code.locals, .slice A3 a.attrs.code.ops.length c3, .slice A4 a.attrs.code.handlers.length c4, .int .i64 a.attrs.code.has, .slice A5 a.attrs.code.lines.length c5, .slice A6 a.attrs.code.slots.length c6, .int .i64 a.attrs.value.tag, .string (bs a.attrs.value.text), .int .u64 a.attrs.value.bits, .string (bs a.attrs.value.cls), .string (bs a.attrs.value.name), .string (bs a.attrs.value.desc), .slice A7 a.attrs.throws.length c7, .slice A8 a.attrs.inners.length c8, .string (bs a.attrs.signature), .string (bs a.attrs.source)]) (fun x hx => run_load_cells 37 _ rfl w.heap.size 0 rfl _ (HCA.out x hx.below) _ Tryz.underlying37 rfl hcl) ?_
  simp only [Act.put, List.setIfInBounds_toArray, List.set_cons_zero, List.set_cons_succ]
  refine OrdD.lex_val rfl rfl (.agg #[.int .i64 b.minor, .int .i64 b.major, .int .i64 b.flags, .string (bs b.this), .string (bs b.super), .slice B0 b.faces.length d0, .slice B1 b.fields.length d1, .slice B2 b.methods.length d2, .int .i64 b.attrs.has, .int .i64 b.attrs.code.stack, .int .i64 b.attrs.code.locals, .slice B3 b.attrs.code.ops.length d3, .slice B4 b.attrs.code.handlers.length d4, .int .i64 b.attrs.code.has, .slice B5 b.attrs.code.lines.length d5, .slice B6 b.attrs.code.slots.length d6, .int .i64 b.attrs.value.tag, .string (bs b.attrs.value.text), .int .u64 b.attrs.value.bits, .string (bs b.attrs.value.cls), .string (bs b.attrs.value.name), .string (bs b.attrs.value.desc), .slice B7 b.attrs.throws.length d7, .slice B8 b.attrs.inners.length d8, .string (bs b.attrs.signature), .string (bs b.attrs.source)]) (fun x hx => run_load_cells 37 _ rfl (w.heap.size + 1) 0 rfl _ (HCB.out x hx.below) _ Tryz.underlying37 rfl hcl) ?_
  simp only [Act.put, List.setIfInBounds_toArray, List.set_cons_zero, List.set_cons_succ]
  refine OrdD.lex_callv rfl rfl 6 #[.agg #[.int .i64 a.minor, .int .i64 a.major, .int .i64 a.flags, .string (bs a.this), .string (bs a.super), .slice A0 a.faces.length c0, .slice A1 a.fields.length c1, .slice A2 a.methods.length c2, .int .i64 a.attrs.has, .int .i64 a.attrs.code.stack, .int .i64 a.attrs.code.locals, .slice A3 a.attrs.code.ops.length c3, .slice A4 a.attrs.code.handlers.length c4, .int .i64 a.attrs.code.has, .slice A5 a.attrs.code.lines.length c5, .slice A6 a.attrs.code.slots.length c6, .int .i64 a.attrs.value.tag, .string (bs a.attrs.value.text), .int .u64 a.attrs.value.bits, .string (bs a.attrs.value.cls), .string (bs a.attrs.value.name), .string (bs a.attrs.value.desc), .slice A7 a.attrs.throws.length c7, .slice A8 a.attrs.inners.length c8, .string (bs a.attrs.signature), .string (bs a.attrs.source)], .agg #[.int .i64 b.minor, .int .i64 b.major, .int .i64 b.flags, .string (bs b.this), .string (bs b.super), .slice B0 b.faces.length d0, .slice B1 b.fields.length d1, .slice B2 b.methods.length d2, .int .i64 b.attrs.has, .int .i64 b.attrs.code.stack, .int .i64 b.attrs.code.locals, .slice B3 b.attrs.code.ops.length d3, .slice B4 b.attrs.code.handlers.length d4, .int .i64 b.attrs.code.has, .slice B5 b.attrs.code.lines.length d5, .slice B6 b.attrs.code.slots.length d6, .int .i64 b.attrs.value.tag, .string (bs b.attrs.value.text), .int .u64 b.attrs.value.bits, .string (bs b.attrs.value.cls), .string (bs b.attrs.value.name), .string (bs b.attrs.value.desc), .slice B7 b.attrs.throws.length d7, .slice B8 b.attrs.inners.length d8, .string (bs b.attrs.signature), .string (bs b.attrs.source)]] (.bool d) (fun x hx => by go_simp) (fun x hx => (Same_any x a b _ _ (HR1.out x hx.below) (HR2.out x hx.below) hga hgb).mono (fun e y h => ⟨tells_val h.1 HD.out, h.2⟩)) ?_
  simp only [Act.put, List.setIfInBounds_toArray, List.set_cons_zero, List.set_cons_succ]
  try simp only [List.take_succ_cons, List.take_zero, List.drop_succ_cons, List.drop_zero]
  repeat (first | (refine OrdD.wpLex_skip rfl rfl ?_; simp only [Act.put, List.setIfInBounds_toArray, List.set_cons_zero, List.set_cons_succ]) | (refine OrdD.wpLex_fix rfl rfl ?_; intro F hF R hR hne K hK; go_big_quiet_op; first | (go_big_quiet_on; clear hne hR R hF F) | (apply Exists.intro; refine ⟨fun g => ?_, ?_⟩; (((fail))); go_big_quiet_on; clear hne hR R hF F)) | (apply OrdD.wpLex_blk rfl rfl; (focus (intro x hx; go_simp; exact ⟨rfl, rfl⟩)); intro B hB; simp only [Act.put, blkVal, List.setIfInBounds_toArray, List.set_cons_zero, List.set_cons_succ]))
  refine OrdD.wpLex_nil ?_
  intro w4 hw4
  have J := Lib.hid (K3.out.trans (((Below.refl w3.heap.size w3).drew.trans hw4.below).mono K3.out.size))
  clear hw4
  go_wp2_with fail
  go_ret
  exact ⟨rfl, J.out⟩
end Go.Proofs.YtibogpidnnodnaaGreatDoor
