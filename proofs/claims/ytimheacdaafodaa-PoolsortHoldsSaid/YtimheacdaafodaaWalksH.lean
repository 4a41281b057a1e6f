/- The walk of layer 16's document: the value that a constant is. -/
import Derived.Test.YtimheacdaafodaaWalksG
import Derived.Laws.ResultCell
namespace Go.Proofs.Ytimheacdaafodaa
open Go.RowKit

theorem val_ret2 {fn : Func} {R : Ending → World → Prop} {a : Act} {w : World} {p u g : Nat} {v : Pv} {x : Value} (hf : fn.results = #[.cell p 25, .tmp u]) (hp : a.tmps.getD p undef = .pointer (some ⟨g, 0, none⟩)) (hu : a.tmps.getD u undef = x) (hb : VBox w g v) (hR : R (.returned (.tuple #[vv v, x])) w) (hd : a.defers = [] := by rfl) : bodyPost Try.prog fn R .ret a w :=
  bodyPost_ret (by
    rw [results_cell_tmp hf, hp, hu]
    simp only [asAddr, Sem.run_pure, Result.andThen_ok, run_loadVar_row w g 25 25 _ _ _ hb Try.underlying25 rfl sizeVal]
    rfl) hd hR
/-- A value stored over a box. -/
def stored (w : World) (b : Nat) (v : Pv) : World :=
  (((((w.setCell ⟨b, 0, none⟩ (.int .i64 v.tag)).setCell ⟨b, 1, none⟩ (.string (bs v.text))).setCell ⟨b, 2, none⟩ (.int .u64 v.bits)).setCell ⟨b, 3, none⟩ (.string (bs v.cls))).setCell ⟨b, 4, none⟩ (.string (bs v.name))).setCell ⟨b, 5, none⟩ (.string (bs v.desc))
theorem vbox_store {w : World} {b : Nat} {v0 : Pv} (h : VBox w b v0) (v : Pv) : VBox (stored w b v) b v :=
  box_set (box_set (box_set (box_set (box_set (box_set h _ rfl) _ rfl) _ rfl) _ rfl) _ rfl) _ rfl
theorem below_store {w0 w : World} {B b : Nat} (h : Below B w0 w) (hb : B ≤ b) (v : Pv) : Below B w0 (stored w b v) :=
  (((((h.setCell (p := ⟨b, 0, none⟩) hb _).setCell (p := ⟨b, 1, none⟩) hb _).setCell (p := ⟨b, 2, none⟩) hb _).setCell (p := ⟨b, 3, none⟩) hb _).setCell (p := ⟨b, 4, none⟩) hb _).setCell (p := ⟨b, 5, none⟩) hb _
theorem vbox_set3 {w : World} {b : Nat} {t : Int} {x : List UInt8} {n : Nat} {c m d : List UInt8} (h : VBox w b ⟨t, x, n, c, m, d⟩) (s : List UInt8) : VBox (w.setCell ⟨b, 3, none⟩ (.string (bs s))) b ⟨t, x, n, s, m, d⟩ := box_set h _ rfl
theorem vbox_set4 {w : World} {b : Nat} {t : Int} {x : List UInt8} {n : Nat} {c m d : List UInt8} (h : VBox w b ⟨t, x, n, c, m, d⟩) (s : List UInt8) : VBox (w.setCell ⟨b, 4, none⟩ (.string (bs s))) b ⟨t, x, n, c, s, d⟩ := box_set h _ rfl
theorem vbox_set5 {w : World} {b : Nat} {t : Int} {x : List UInt8} {n : Nat} {c m d : List UInt8} (h : VBox w b ⟨t, x, n, c, m, d⟩) (s : List UInt8) : VBox (w.setCell ⟨b, 5, none⟩ (.string (bs s))) b ⟨t, x, n, c, m, s⟩ := box_set h _ rfl
theorem zero_cells {w : World} {b : Nat} (h : VBox w b Pv.zero) : w.cell? ⟨b, 0, none⟩ = some (.int .i64 0) ∧ w.cell? ⟨b, 1, none⟩ = some (.string ⟨#[]⟩) ∧ w.cell? ⟨b, 2, none⟩ = some (.int .u64 0) ∧
    w.cell? ⟨b, 3, none⟩ = some (.string ⟨#[]⟩) ∧ w.cell? ⟨b, 4, none⟩ = some (.string ⟨#[]⟩) ∧ w.cell? ⟨b, 5, none⟩ = some (.string ⟨#[]⟩) := h.at_
set_option maxRecDepth 100000 in
set_option maxHeartbeats 8000000 in
theorem value_any (A : Option Addr) (c : Nat) (O : List Pv) (v : Pv) (w : World) (hx : Raws w A c (Pv.raws O)) (hL : (Pv.raws O).length ≤ 1000000) (hcl : ∀ v ∈ O, ∀ x ∈ v.needs, x ∈ O) (hok : ∀ v ∈ O, v.chk 0 9 5 = 0) (hv : v ∈ O) :
    Calls Try.prog 16 #[.slice A (Pv.raws O).length c, .int .i64 (Pv.num O v : Nat), .slice none 0 0] w fun e w' => e = .returned (.tuple #[vv v, .int .i64 0]) ∧ Below w.heap.size w w' := by
  have hc := hok v hv
  have ht0 : v.tag ≠ 0 := fun e => by
    unfold Pv.chk at hc
    rw [e] at hc
    simp at hc
  have k0 := Lib.hid ((Below.refl w.heap.size w).alloc (Nat.le_refl _) (.cells #[.int .i64 0, .string ⟨#[]⟩, .int .u64 0, .string ⟨#[]⟩, .string ⟨#[]⟩, .string ⟨#[]⟩] 25))
  have q0 := Lib.hid (show VBox (w.alloc (.cells #[.int .i64 0, .string ⟨#[]⟩, .int .u64 0, .string ⟨#[]⟩, .string ⟨#[]⟩, .string ⟨#[]⟩] 25)) w.heap.size Pv.zero from heap_alloc_new _ _)
  have X0 := Lib.hid (hx.grow k0.out)
  have hat := raws_at hv
  have HN := Lib.hid (none_at A c _ _ _ _ X0.out hL hat (by rw [Pv.rawOf_tag]; exact ht0))
  have HRT := Lib.hid (fun w h => right_any A c O v w h hL hcl hok hv)
  obtain ⟨g, o, rfl, hg, c0, c1, c2, c3, c4⟩ := hat.cells X0.out
  have hl := hat.lt
  have p1 : decide (Pv.num O v < (Pv.raws O).length) = true := decide_eq_true hl
  clear hx
  go_enter Try.func16, Try.ntmps16
  go_wp2_with fail
  refine HN.out.mono ?_
  rintro e w1 ⟨rfl, rfl⟩
  generalize w.alloc (.cells #[.int .i64 0, .string ⟨#[]⟩, .int .u64 0, .string ⟨#[]⟩, .string ⟨#[]⟩, .string ⟨#[]⟩] 25) = W at *
  obtain ⟨e, he⟩ : ∃ e, e = v.rawOf (Pv.num O) := ⟨_, rfl⟩
  rw [← he] at c0 c1 c2 c3 c4
  have HEQ := Lib.hid he
  clear he
  have k1 := Lib.hid ((Below.refl W.heap.size W).alloc (Nat.le_refl _) (.cells #[.int .i64 e.tag, .string (bs e.text), .int .u64 e.bits, .int .i64 e.a, .int .i64 e.b] 49))
  have r1 := Lib.hid (show RBox (W.alloc (.cells #[.int .i64 e.tag, .string (bs e.text), .int .u64 e.bits, .int .i64 e.a, .int .i64 e.b] 49)) W.heap.size e from heap_alloc_new _ _)
  clear HN
  go_wp2_with fail
  generalize W.alloc (.cells #[.int .i64 e.tag, .string (bs e.text), .int .u64 e.bits, .int .i64 e.a, .int .i64 e.b] 49) = W1 at k1 r1 ⊢
  clear c0 c1 c2 c3 c4
  go_loopw [9, 27] (fun b t wr => b = .bool true ∧ t = .int .i64 0 ∧ wr = W1) (fun _ _ _ => 0)
  case atStart => exact ⟨rfl, rfl, rfl⟩
  case round =>
    obtain ⟨rfl, rfl, rfl⟩ := hrel
    have hcall := HRT.out wr (X0.out.grow k1.out)
    rw [← HEQ.out] at hcall
    have HC := Lib.hid hcall
    obtain ⟨d0, d1, d2, d3, d4⟩ := r1.out.at_
    have hz := r1.out.lt
    have X1 := Lib.hid (X0.out.grow k1.out)
    have q1 := Lib.hid (q0.out.keep k1.out q0.out.lt)
    have K1 := Lib.hid (k0.out.trans (k1.out.mono k0.out.size))
    have hlt6 := q0.out.lt
    unfold rr at HC
    clear hcall HRT
    go_wp2_with fail
    refine HC.out.mono ?_
    rintro e1 w2 ⟨rfl, hb2⟩
    have q2 := Lib.hid (q1.out.keep hb2 q1.out.lt)
    have r2 := Lib.hid (r1.out.keep hb2 r1.out.lt)
    have X2 := Lib.hid (X1.out.grow hb2)
    have K2 := Lib.hid (K1.out.trans (hb2.mono K1.out.size))
    have hsz := hb2.size
    clear hb2 d0 d1 d2 d3 d4 hz q1 r1 X1 K1 k0 k1 q0 X0 HC p1
    have he := HEQ.out
    clear HEQ
    obtain ⟨tag, text, bits, cls, name, desc⟩ := v
    by_cases h1 : tag = 1
    · subst h1
      have hn : (⟨1, text, bits, cls, name, desc⟩ : Pv).needs = [] := rfl
      rw [Pv.rawOf_nil hn] at he
      subst he
      obtain ⟨hbits, hcls, hname, hdesc⟩ : bits = 0 ∧ cls = [] ∧ name = [] ∧ desc = [] := by
        simpa [Pv.chk] using hc
      subst hbits hcls hname hdesc
      obtain ⟨d0, d1, d2, d3, d4⟩ := r2.out.at_
      have hz := r2.out.lt
      obtain ⟨z0, z1, z2, z3, z4, z5⟩ := zero_cells q2.out
      have f0 := (blk_facts q2.out).2 0
      have f1 := (blk_facts q2.out).2 1
      have f2 := (blk_facts q2.out).2 2
      have f3 := (blk_facts q2.out).2 3
      have f4 := (blk_facts q2.out).2 4
      have f5 := (blk_facts q2.out).2 5
      have hz6 := q2.out.lt
      dsimp only at d0 d1 d2 d3 d4
      go_wp2_with fail
      refine (form_any _ _).mono ?_
      rintro e1 w3 ⟨rfl, rfl⟩
      simp only [show Pv.form 1 = 116 from by decide]
      go_wp2_with fail
      have hst := vbox_store q2.out ⟨1, text, 0, [], [], []⟩
      have hfin := hst.keep ((Below.refl _ (stored w2 w.heap.size ⟨1, text, 0, [], [], []⟩)).alloc (Nat.le_refl _) (.cells #[.int .i64 1, .string (bs text), .int .u64 0, .string ⟨#[]⟩, .string ⟨#[]⟩, .string ⟨#[]⟩] 25)) hst.lt
      have hbel := (below_store K2.out (Nat.le_refl _) ⟨1, text, 0, [], [], []⟩).alloc (below_store K2.out (Nat.le_refl _) ⟨1, text, 0, [], [], []⟩).size (.cells #[.int .i64 1, .string (bs text), .int .u64 0, .string ⟨#[]⟩, .string ⟨#[]⟩, .string ⟨#[]⟩] 25)
      unfold stored at hfin hbel
      have e0 : ((0 : Nat) : Int) = 0 := rfl
      have e1 : bs [] = (⟨#[]⟩ : ByteArray) := rfl
      simp only [e0, e1] at hfin hbel
      generalize ((((((w2.setCell ⟨w.heap.size, 0, none⟩ (.int .i64 1)).setCell ⟨w.heap.size, 1, none⟩ (.string (bs text))).setCell ⟨w.heap.size, 2, none⟩ (.int .u64 0)).setCell ⟨w.heap.size, 3, none⟩ (.string ⟨#[]⟩)).setCell ⟨w.heap.size, 4, none⟩ (.string ⟨#[]⟩)).setCell ⟨w.heap.size, 5, none⟩ (.string ⟨#[]⟩)).alloc (.cells #[.int .i64 1, .string (bs text), .int .u64 0, .string ⟨#[]⟩, .string ⟨#[]⟩, .string ⟨#[]⟩] 25) = WE at hfin hbel ⊢
      refine val_ret2 (g := w.heap.size) (v := ⟨1, text, 0, [], [], []⟩) (x := .int .i64 0) rfl rfl rfl hfin ⟨rfl, hbel⟩
    by_cases h3 : tag = 3
    · subst h3
      have hn : (⟨3, text, bits, cls, name, desc⟩ : Pv).needs = [] := rfl
      rw [Pv.rawOf_nil hn] at he
      subst he
      obtain ⟨htext, hcls, hname, hdesc⟩ : text = [] ∧ cls = [] ∧ name = [] ∧ desc = [] := by
        by_cases hq : text = [] ∧ cls = [] ∧ name = [] ∧ desc = []
        · exact hq
        · exfalso; simp [Pv.chk, hq] at hc
      subst htext hcls hname hdesc
      obtain ⟨d0, d1, d2, d3, d4⟩ := r2.out.at_
      have hz := r2.out.lt
      obtain ⟨z0, z1, z2, z3, z4, z5⟩ := zero_cells q2.out
      have f0 := (blk_facts q2.out).2 0
      have f1 := (blk_facts q2.out).2 1
      have f2 := (blk_facts q2.out).2 2
      have f3 := (blk_facts q2.out).2 3
      have f4 := (blk_facts q2.out).2 4
      have f5 := (blk_facts q2.out).2 5
      have hz6 := q2.out.lt
      dsimp only at d0 d1 d2 d3 d4
      go_wp2_with fail
      refine (form_any _ _).mono ?_
      rintro e1 w3 ⟨rfl, rfl⟩
      simp only [show Pv.form 3 = 52 from by decide]
      go_wp2_with fail
      have hst := vbox_store q2.out ⟨3, [], bits, [], [], []⟩
      have hfin := hst.keep ((Below.refl _ (stored w2 w.heap.size ⟨3, [], bits, [], [], []⟩)).alloc (Nat.le_refl _) (.cells #[.int .i64 3, .string ⟨#[]⟩, .int .u64 bits, .string ⟨#[]⟩, .string ⟨#[]⟩, .string ⟨#[]⟩] 25)) hst.lt
      have hbel := (below_store K2.out (Nat.le_refl _) ⟨3, [], bits, [], [], []⟩).alloc (below_store K2.out (Nat.le_refl _) ⟨3, [], bits, [], [], []⟩).size (.cells #[.int .i64 3, .string ⟨#[]⟩, .int .u64 bits, .string ⟨#[]⟩, .string ⟨#[]⟩, .string ⟨#[]⟩] 25)
      unfold stored at hfin hbel
      have e0 : ((0 : Nat) : Int) = 0 := rfl
      have e1 : bs [] = (⟨#[]⟩ : ByteArray) := rfl
      simp only [e0, e1] at hfin hbel
      generalize ((((((w2.setCell ⟨w.heap.size, 0, none⟩ (.int .i64 3)).setCell ⟨w.heap.size, 1, none⟩ (.string ⟨#[]⟩)).setCell ⟨w.heap.size, 2, none⟩ (.int .u64 bits)).setCell ⟨w.heap.size, 3, none⟩ (.string ⟨#[]⟩)).setCell ⟨w.heap.size, 4, none⟩ (.string ⟨#[]⟩)).setCell ⟨w.heap.size, 5, none⟩ (.string ⟨#[]⟩)).alloc (.cells #[.int .i64 3, .string ⟨#[]⟩, .int .u64 bits, .string ⟨#[]⟩, .string ⟨#[]⟩, .string ⟨#[]⟩] 25) = WE at hfin hbel ⊢
      refine val_ret2 (g := w.heap.size) (v := ⟨3, [], bits, [], [], []⟩) (x := .int .i64 0) rfl rfl rfl hfin ⟨rfl, hbel⟩
    by_cases h4 : tag = 4
    · subst h4
      have hn : (⟨4, text, bits, cls, name, desc⟩ : Pv).needs = [] := rfl
      rw [Pv.rawOf_nil hn] at he
      subst he
      obtain ⟨htext, hcls, hname, hdesc⟩ : text = [] ∧ cls = [] ∧ name = [] ∧ desc = [] := by
        by_cases hq : text = [] ∧ cls = [] ∧ name = [] ∧ desc = []
        · exact hq
        · exfalso; simp [Pv.chk, hq] at hc
      subst htext hcls hname hdesc
      obtain ⟨d0, d1, d2, d3, d4⟩ := r2.out.at_
      have hz := r2.out.lt
      obtain ⟨z0, z1, z2, z3, z4, z5⟩ := zero_cells q2.out
      have f0 := (blk_facts q2.out).2 0
      have f1 := (blk_facts q2.out).2 1
      have f2 := (blk_facts q2.out).2 2
      have f3 := (blk_facts q2.out).2 3
      have f4 := (blk_facts q2.out).2 4
      have f5 := (blk_facts q2.out).2 5
      have hz6 := q2.out.lt
      dsimp only at d0 d1 d2 d3 d4
      go_wp2_with fail
      refine (form_any _ _).mono ?_
      rintro e1 w3 ⟨rfl, rfl⟩
      simp only [show Pv.form 4 = 52 from by decide]
      go_wp2_with fail
      have hst := vbox_store q2.out ⟨4, [], bits, [], [], []⟩
      have hfin := hst.keep ((Below.refl _ (stored w2 w.heap.size ⟨4, [], bits, [], [], []⟩)).alloc (Nat.le_refl _) (.cells #[.int .i64 4, .string ⟨#[]⟩, .int .u64 bits, .string ⟨#[]⟩, .string ⟨#[]⟩, .string ⟨#[]⟩] 25)) hst.lt
      have hbel := (below_store K2.out (Nat.le_refl _) ⟨4, [], bits, [], [], []⟩).alloc (below_store K2.out (Nat.le_refl _) ⟨4, [], bits, [], [], []⟩).size (.cells #[.int .i64 4, .string ⟨#[]⟩, .int .u64 bits, .string ⟨#[]⟩, .string ⟨#[]⟩, .string ⟨#[]⟩] 25)
      unfold stored at hfin hbel
      have e0 : ((0 : Nat) : Int) = 0 := rfl
      have e1 : bs [] = (⟨#[]⟩ : ByteArray) := rfl
      simp only [e0, e1] at hfin hbel
      generalize ((((((w2.setCell ⟨w.heap.size, 0, none⟩ (.int .i64 4)).setCell ⟨w.heap.size, 1, none⟩ (.string ⟨#[]⟩)).setCell ⟨w.heap.size, 2, none⟩ (.int .u64 bits)).setCell ⟨w.heap.size, 3, none⟩ (.string ⟨#[]⟩)).setCell ⟨w.heap.size, 4, none⟩ (.string ⟨#[]⟩)).setCell ⟨w.heap.size, 5, none⟩ (.string ⟨#[]⟩)).alloc (.cells #[.int .i64 4, .string ⟨#[]⟩, .int .u64 bits, .string ⟨#[]⟩, .string ⟨#[]⟩, .string ⟨#[]⟩] 25) = WE at hfin hbel ⊢
      refine val_ret2 (g := w.heap.size) (v := ⟨4, [], bits, [], [], []⟩) (x := .int .i64 0) rfl rfl rfl hfin ⟨rfl, hbel⟩
    by_cases h5 : tag = 5
    · subst h5
      have hn : (⟨5, text, bits, cls, name, desc⟩ : Pv).needs = [] := rfl
      rw [Pv.rawOf_nil hn] at he
      subst he
      obtain ⟨htext, hcls, hname, hdesc⟩ : text = [] ∧ cls = [] ∧ name = [] ∧ desc = [] := by
        by_cases hq : text = [] ∧ cls = [] ∧ name = [] ∧ desc = []
        · exact hq
        · exfalso; simp [Pv.chk, hq] at hc
      subst htext hcls hname hdesc
      obtain ⟨d0, d1, d2, d3, d4⟩ := r2.out.at_
      have hz := r2.out.lt
      obtain ⟨z0, z1, z2, z3, z4, z5⟩ := zero_cells q2.out
      have f0 := (blk_facts q2.out).2 0
      have f1 := (blk_facts q2.out).2 1
      have f2 := (blk_facts q2.out).2 2
      have f3 := (blk_facts q2.out).2 3
      have f4 := (blk_facts q2.out).2 4
      have f5 := (blk_facts q2.out).2 5
      have hz6 := q2.out.lt
      dsimp only at d0 d1 d2 d3 d4
      go_wp2_with fail
      refine (form_any _ _).mono ?_
      rintro e1 w3 ⟨rfl, rfl⟩
      simp only [show Pv.form 5 = 56 from by decide]
      go_wp2_with fail
      have hst := vbox_store q2.out ⟨5, [], bits, [], [], []⟩
      have hfin := hst.keep ((Below.refl _ (stored w2 w.heap.size ⟨5, [], bits, [], [], []⟩)).alloc (Nat.le_refl _) (.cells #[.int .i64 5, .string ⟨#[]⟩, .int .u64 bits, .string ⟨#[]⟩, .string ⟨#[]⟩, .string ⟨#[]⟩] 25)) hst.lt
      have hbel := (below_store K2.out (Nat.le_refl _) ⟨5, [], bits, [], [], []⟩).alloc (below_store K2.out (Nat.le_refl _) ⟨5, [], bits, [], [], []⟩).size (.cells #[.int .i64 5, .string ⟨#[]⟩, .int .u64 bits, .string ⟨#[]⟩, .string ⟨#[]⟩, .string ⟨#[]⟩] 25)
      unfold stored at hfin hbel
      have e0 : ((0 : Nat) : Int) = 0 := rfl
      have e1 : bs [] = (⟨#[]⟩ : ByteArray) := rfl
      simp only [e0, e1] at hfin hbel
      generalize ((((((w2.setCell ⟨w.heap.size, 0, none⟩ (.int .i64 5)).setCell ⟨w.heap.size, 1, none⟩ (.string ⟨#[]⟩)).setCell ⟨w.heap.size, 2, none⟩ (.int .u64 bits)).setCell ⟨w.heap.size, 3, none⟩ (.string ⟨#[]⟩)).setCell ⟨w.heap.size, 4, none⟩ (.string ⟨#[]⟩)).setCell ⟨w.heap.size, 5, none⟩ (.string ⟨#[]⟩)).alloc (.cells #[.int .i64 5, .string ⟨#[]⟩, .int .u64 bits, .string ⟨#[]⟩, .string ⟨#[]⟩, .string ⟨#[]⟩] 25) = WE at hfin hbel ⊢
      refine val_ret2 (g := w.heap.size) (v := ⟨5, [], bits, [], [], []⟩) (x := .int .i64 0) rfl rfl rfl hfin ⟨rfl, hbel⟩
    by_cases h6 : tag = 6
    · subst h6
      have hn : (⟨6, text, bits, cls, name, desc⟩ : Pv).needs = [] := rfl
      rw [Pv.rawOf_nil hn] at he
      subst he
      obtain ⟨htext, hcls, hname, hdesc⟩ : text = [] ∧ cls = [] ∧ name = [] ∧ desc = [] := by
        by_cases hq : text = [] ∧ cls = [] ∧ name = [] ∧ desc = []
        · exact hq
        · exfalso; simp [Pv.chk, hq] at hc
      subst htext hcls hname hdesc
      obtain ⟨d0, d1, d2, d3, d4⟩ := r2.out.at_
      have hz := r2.out.lt
      obtain ⟨z0, z1, z2, z3, z4, z5⟩ := zero_cells q2.out
      have f0 := (blk_facts q2.out).2 0
      have f1 := (blk_facts q2.out).2 1
      have f2 := (blk_facts q2.out).2 2
      have f3 := (blk_facts q2.out).2 3
      have f4 := (blk_facts q2.out).2 4
      have f5 := (blk_facts q2.out).2 5
      have hz6 := q2.out.lt
      dsimp only at d0 d1 d2 d3 d4
      go_wp2_with fail
      refine (form_any _ _).mono ?_
      rintro e1 w3 ⟨rfl, rfl⟩
      simp only [show Pv.form 6 = 56 from by decide]
      go_wp2_with fail
      have hst := vbox_store q2.out ⟨6, [], bits, [], [], []⟩
      have hfin := hst.keep ((Below.refl _ (stored w2 w.heap.size ⟨6, [], bits, [], [], []⟩)).alloc (Nat.le_refl _) (.cells #[.int .i64 6, .string ⟨#[]⟩, .int .u64 bits, .string ⟨#[]⟩, .string ⟨#[]⟩, .string ⟨#[]⟩] 25)) hst.lt
      have hbel := (below_store K2.out (Nat.le_refl _) ⟨6, [], bits, [], [], []⟩).alloc (below_store K2.out (Nat.le_refl _) ⟨6, [], bits, [], [], []⟩).size (.cells #[.int .i64 6, .string ⟨#[]⟩, .int .u64 bits, .string ⟨#[]⟩, .string ⟨#[]⟩, .string ⟨#[]⟩] 25)
      unfold stored at hfin hbel
      have e0 : ((0 : Nat) : Int) = 0 := rfl
      have e1 : bs [] = (⟨#[]⟩ : ByteArray) := rfl
      simp only [e0, e1] at hfin hbel
      generalize ((((((w2.setCell ⟨w.heap.size, 0, none⟩ (.int .i64 6)).setCell ⟨w.heap.size, 1, none⟩ (.string ⟨#[]⟩)).setCell ⟨w.heap.size, 2, none⟩ (.int .u64 bits)).setCell ⟨w.heap.size, 3, none⟩ (.string ⟨#[]⟩)).setCell ⟨w.heap.size, 4, none⟩ (.string ⟨#[]⟩)).setCell ⟨w.heap.size, 5, none⟩ (.string ⟨#[]⟩)).alloc (.cells #[.int .i64 6, .string ⟨#[]⟩, .int .u64 bits, .string ⟨#[]⟩, .string ⟨#[]⟩, .string ⟨#[]⟩] 25) = WE at hfin hbel ⊢
      refine val_ret2 (g := w.heap.size) (v := ⟨6, [], bits, [], [], []⟩) (x := .int .i64 0) rfl rfl rfl hfin ⟨rfl, hbel⟩
    by_cases h7 : tag = 7 ∨ tag = 8
    · have hn : (⟨tag, text, bits, cls, name, desc⟩ : Pv).needs = [Pv.ofText text] := by unfold Pv.needs; rw [if_pos h7]
      have hm := hcl _ hv (Pv.ofText text) (by rw [hn]; simp)
      rw [Pv.rawOf_one hn] at he
      subst he
      obtain ⟨hbits, hcls, hname, hdesc⟩ : bits = 0 ∧ cls = [] ∧ name = [] ∧ desc = [] := by
        rcases h7 with rfl | rfl <;> simpa [Pv.chk] using hc
      subst hbits hcls hname hdesc
      have hk := raws_at hm
      rw [Pv.rawOf_nil (Pv.needs_text text)] at hk
      obtain ⟨g', o', e', hgl, b0, b1, b2, b3, b4⟩ := hk.cells X2.out
      cases e'
      have hkl := hk.lt
      have p1 : decide (Pv.num O (Pv.ofText text) < (Pv.raws O).length) = true := decide_eq_true hkl
      have hf : Pv.form tag = 97 := by rcases h7 with rfl | rfl <;> decide
      have t12 : (tag == 12) = false := by rcases h7 with rfl | rfl <;> decide
      have t9 : decide (9 ≤ tag) = false := by rcases h7 with rfl | rfl <;> decide
      clear hk h1 h3 h4 h5 h6 h7 hcl hok hc ht0 b0 b2 b3 b4 hm
      generalize Pv.num O (Pv.ofText text) = k at *
      dsimp only [Pv.ofText] at b1
      obtain ⟨d0, d1, d2, d3, d4⟩ := r2.out.at_
      have hz := r2.out.lt
      obtain ⟨z0, z1, z2, z3, z4, z5⟩ := zero_cells q2.out
      have f0 := (blk_facts q2.out).2 0
      have f1 := (blk_facts q2.out).2 1
      have f2 := (blk_facts q2.out).2 2
      have f3 := (blk_facts q2.out).2 3
      have f4 := (blk_facts q2.out).2 4
      have f5 := (blk_facts q2.out).2 5
      have hz6 := q2.out.lt
      dsimp only at d0 d1 d2 d3 d4
      go_wp2_with fail
      refine (form_any _ _).mono ?_
      rintro e1 w3 ⟨rfl, rfl⟩
      rw [hf]
      go_wp2_with fail
      have hst := vbox_store q2.out ⟨tag, text, 0, [], [], []⟩
      have hfin := hst.keep ((Below.refl _ (stored w2 w.heap.size ⟨tag, text, 0, [], [], []⟩)).alloc (Nat.le_refl _) (.cells #[.int .i64 tag, .string (bs text), .int .u64 0, .string ⟨#[]⟩, .string ⟨#[]⟩, .string ⟨#[]⟩] 25)) hst.lt
      have hbel := (below_store K2.out (Nat.le_refl _) ⟨tag, text, 0, [], [], []⟩).alloc (below_store K2.out (Nat.le_refl _) ⟨tag, text, 0, [], [], []⟩).size (.cells #[.int .i64 tag, .string (bs text), .int .u64 0, .string ⟨#[]⟩, .string ⟨#[]⟩, .string ⟨#[]⟩] 25)
      unfold stored at hfin hbel
      have e0 : ((0 : Nat) : Int) = 0 := rfl
      have e1 : bs [] = (⟨#[]⟩ : ByteArray) := rfl
      simp only [e0, e1] at hfin hbel
      generalize ((((((w2.setCell ⟨w.heap.size, 0, none⟩ (.int .i64 tag)).setCell ⟨w.heap.size, 1, none⟩ (.string (bs text))).setCell ⟨w.heap.size, 2, none⟩ (.int .u64 0)).setCell ⟨w.heap.size, 3, none⟩ (.string ⟨#[]⟩)).setCell ⟨w.heap.size, 4, none⟩ (.string ⟨#[]⟩)).setCell ⟨w.heap.size, 5, none⟩ (.string ⟨#[]⟩)).alloc (.cells #[.int .i64 tag, .string (bs text), .int .u64 0, .string ⟨#[]⟩, .string ⟨#[]⟩, .string ⟨#[]⟩] 25) = WE at hfin hbel ⊢
      refine val_ret2 (g := w.heap.size) (v := ⟨tag, text, 0, [], [], []⟩) (x := .int .i64 0) rfl rfl rfl hfin ⟨rfl, hbel⟩
    by_cases h12 : tag = 12
    · subst h12
      have hn : (⟨12, text, bits, cls, name, desc⟩ : Pv).needs = [Pv.ofText name, Pv.ofText desc] := rfl
      have m1 := hcl _ hv (Pv.ofText name) (by rw [hn]; simp)
      have m2 := hcl _ hv (Pv.ofText desc) (by rw [hn]; simp)
      rw [Pv.rawOf_two hn] at he
      subst he
      obtain ⟨htext, hbits, hcls⟩ : text = [] ∧ bits = 0 ∧ cls = [] := by
        by_cases hq : text = [] ∧ bits = 0 ∧ cls = []
        · exact hq
        · exfalso; simp [Pv.chk, hq] at hc
      subst htext hbits hcls
      have hk1 := raws_at m1
      have hk2 := raws_at m2
      rw [Pv.rawOf_nil (Pv.needs_text name)] at hk1
      rw [Pv.rawOf_nil (Pv.needs_text desc)] at hk2
      have p1 : decide (Pv.num O (Pv.ofText name) < (Pv.raws O).length) = true := decide_eq_true hk1.lt
      have p2 : decide (Pv.num O (Pv.ofText desc) < (Pv.raws O).length) = true := decide_eq_true hk2.lt
      have i1 : Pv.num O (Pv.ofText name) < (Pv.raws O).length := hk1.lt
      have i2 : Pv.num O (Pv.ofText desc) < (Pv.raws O).length := hk2.lt
      have i3 : ((Pv.num O (Pv.ofText name) : Nat) : Int) < ((Pv.raws O).length : Int) := by omega
      have i4 : ((Pv.num O (Pv.ofText desc) : Nat) : Int) < ((Pv.raws O).length : Int) := by omega
      have HK1 := Lib.hid (fun w h => At.cells (w := w) (A := some ⟨g, o, none⟩) (c := c) h hk1)
      have HK2 := Lib.hid (fun w h => At.cells (w := w) (A := some ⟨g, o, none⟩) (c := c) h hk2)
      clear hk1 hk2 h1 h3 h4 h5 h6 h7 hcl hok hc ht0 m1 m2
      generalize Pv.num O (Pv.ofText name) = k1 at *
      generalize Pv.num O (Pv.ofText desc) = k2 at *
      obtain ⟨d0, d1, d2, d3, d4⟩ := r2.out.at_
      have hz := r2.out.lt
      dsimp only at d0 d1 d2 d3 d4
      go_upto_region 13 with fail
      clear d0 d1 d2 d3 d4 hz
      have kx := Lib.hid ((Below.refl w2.heap.size w2).alloc (Nat.le_refl _) (.cells #[.int .i64 12, .string ⟨#[]⟩, .int .u64 0, .string ⟨#[]⟩, .string ⟨#[]⟩, .string ⟨#[]⟩] 25))
      have v3 := Lib.hid (show VBox (w2.alloc (.cells #[.int .i64 12, .string ⟨#[]⟩, .int .u64 0, .string ⟨#[]⟩, .string ⟨#[]⟩, .string ⟨#[]⟩] 25)) w2.heap.size ⟨12, [], 0, [], [], []⟩ from heap_alloc_new _ _)
      generalize w2.alloc (.cells #[.int .i64 12, .string ⟨#[]⟩, .int .u64 0, .string ⟨#[]⟩, .string ⟨#[]⟩, .string ⟨#[]⟩] 25) = X at kx v3 ⊢
      have q3 := Lib.hid (q2.out.keep kx.out q2.out.lt)
      have r3 := Lib.hid (r2.out.keep kx.out r2.out.lt)
      have X3 := Lib.hid (X2.out.grow kx.out)
      have K3 := Lib.hid (K2.out.trans (kx.out.mono K2.out.size))
      have hKs := K2.out.size
      have n1 : ¬ w.heap.size = w2.heap.size := by have := q2.out.lt; omega
      have n2 : ¬ W.heap.size = w2.heap.size := by have := r2.out.lt; omega
      have n3 : ¬ g = w2.heap.size := by
        have := X2.out.2 (by omega)
        obtain ⟨g', o', e, h, _⟩ := this
        cases e
        omega
      clear q2 r2 X2 K2 hsz kx
      obtain ⟨g', o', e', hgl, b0, b1, b2, b3, b4⟩ := HK1.out X X3.out
      cases e'
      obtain ⟨g', o', e', _, e0, e1, e2, e3, e4⟩ := HK2.out X X3.out
      cases e'
      dsimp only [Pv.ofText] at b1 e1
      clear b0 b2 b3 b4 e0 e2 e3 e4 HK1 HK2
      obtain ⟨d0, d1, d2, d3, d4⟩ := r3.out.at_
      have hz := r3.out.lt
      dsimp only at d0 d1 d2 d3 d4
      have f4 := (blk_facts v3.out).2 4
      have f5 := (blk_facts v3.out).2 5
      have hz3 := v3.out.lt
      have u4 : X.cell? ⟨w2.heap.size, 4, none⟩ = some (.string ⟨#[]⟩) := v3.out.at_.2.2.2.2.1
      have u5 : X.cell? ⟨w2.heap.size, 5, none⟩ = some (.string ⟨#[]⟩) := v3.out.at_.2.2.2.2.2
      go_wp2_with fail
      refine (form_any _ _).mono ?_
      rintro e1' w3 ⟨rfl, rfl⟩
      simp only [show Pv.form 12 = 98 from by decide]
      go_wp2_with fail
      go_region
      go_upto_region 26 with fail
      have hgr0 := grownBy_set w3 w2.heap.size 4 v3.out (.string (bs name))
      have hv0 := vbox_set4 v3.out name
      have hgr1 := grownBy_set (w3.setCell ⟨w2.heap.size, 4, none⟩ (.string (bs name))) w2.heap.size 5 hv0 (.string (bs desc))
      have hv1 := vbox_set5 hv0 desc
      have hq1 : VBox ((w3.setCell ⟨w2.heap.size, 4, none⟩ (.string (bs name))).setCell ⟨w2.heap.size, 5, none⟩ (.string (bs desc))) w.heap.size Pv.zero := (hgr1.block _ (Nat.lt_of_lt_of_le q3.out.lt hgr0.size) (fun e => n1 (Option.some.inj e))).trans ((hgr0.block _ q3.out.lt (fun e => n1 (Option.some.inj e))).trans q3.out)
      have hB1 := (K3.out.setCell (p := ⟨w2.heap.size, 4, none⟩) hKs (.string (bs name))).setCell (p := ⟨w2.heap.size, 5, none⟩) hKs (.string (bs desc))
      obtain ⟨Z, eZ⟩ : ∃ Z, Z = ((w3.setCell ⟨w2.heap.size, 4, none⟩ (.string (bs name))).setCell ⟨w2.heap.size, 5, none⟩ (.string (bs desc))).drew := ⟨_, rfl⟩
      have v9 := Lib.hid (show VBox Z w2.heap.size ⟨12, [], 0, [], name, desc⟩ from by rw [eZ]; exact hv1)
      have q9 := Lib.hid (show VBox Z w.heap.size Pv.zero from by rw [eZ]; exact hq1)
      have K9 := Lib.hid (show Below w.heap.size w Z from by rw [eZ]; exact hB1.drew)
      rw [← eZ]
      clear eZ hgr0 hgr1 hv0 hv1 hq1 hB1 q3 r3 X3 K3 v3 b1 e1 d0 d1 d2 d3 d4 hz f4 f5 u4 u5 n2 n3 hgl hz3
      obtain ⟨d0, d1, d2, d3, d4, d5⟩ := v9.out.at_
      have hz := v9.out.lt
      obtain ⟨z0, z1, z2, z3, z4, z5⟩ := zero_cells q9.out
      have f0 := (blk_facts q9.out).2 0
      have f1 := (blk_facts q9.out).2 1
      have f2 := (blk_facts q9.out).2 2
      have f3 := (blk_facts q9.out).2 3
      have f4 := (blk_facts q9.out).2 4
      have f5 := (blk_facts q9.out).2 5
      have hz6 := q9.out.lt
      dsimp only at d0 d1 d2 d3 d4 d5
      go_wp2_with fail
      have hfin := vbox_store q9.out ⟨12, [], 0, [], name, desc⟩
      have hbel := below_store K9.out (Nat.le_refl _) ⟨12, [], 0, [], name, desc⟩
      unfold stored at hfin hbel
      have e0 : ((0 : Nat) : Int) = 0 := rfl
      have e1 : bs [] = (⟨#[]⟩ : ByteArray) := rfl
      simp only [e0, e1] at hfin hbel
      refine val_ret2 (g := w.heap.size) (v := ⟨12, [], 0, [], name, desc⟩) (x := .int .i64 0) rfl rfl rfl hfin ⟨rfl, hbel⟩
    have h9 : tag = 9 ∨ tag = 10 ∨ tag = 11 := by
      unfold Pv.chk at hc
      dsimp only at hc
      by_cases hh : tag = 9 ∨ tag = 10 ∨ tag = 11
      · exact hh
      · exfalso
        rw [if_neg (by omega), if_neg (by omega), if_neg (by omega), if_neg (by omega)] at hc
        exact absurd hc (by decide)
    have hn : (⟨tag, text, bits, cls, name, desc⟩ : Pv).needs = [Pv.ofCls cls, Pv.ofPair name desc] := by rcases h9 with rfl | rfl | rfl <;> rfl
    have m1 := hcl _ hv (Pv.ofCls cls) (by rw [hn]; simp)
    have m2 := hcl _ hv (Pv.ofPair name desc) (by rw [hn]; simp)
    have hn1 := Pv.needs_cls cls
    have hn2 := Pv.needs_pair name desc
    have m3 := hcl _ m1 (Pv.ofText cls) (by rw [hn1]; simp)
    have m4 := hcl _ m2 (Pv.ofText name) (by rw [hn2]; simp)
    have m5 := hcl _ m2 (Pv.ofText desc) (by rw [hn2]; simp)
    rw [Pv.rawOf_two hn] at he
    subst he
    obtain ⟨htext, hbits⟩ : text = [] ∧ bits = 0 := by
      by_cases hq : text = [] ∧ bits = 0
      · exact hq
      · exfalso
        rcases h9 with rfl | rfl | rfl <;> simp [Pv.chk, hq] at hc
    subst htext hbits
    have hk1 := raws_at m1
    have hk2 := raws_at m2
    have hk3 := raws_at m3
    have hk4 := raws_at m4
    have hk5 := raws_at m5
    rw [Pv.rawOf_one hn1] at hk1
    rw [Pv.rawOf_two hn2] at hk2
    rw [Pv.rawOf_nil (Pv.needs_text cls)] at hk3
    rw [Pv.rawOf_nil (Pv.needs_text name)] at hk4
    rw [Pv.rawOf_nil (Pv.needs_text desc)] at hk5
    have i1 : Pv.num O (Pv.ofCls cls) < (Pv.raws O).length := hk1.lt
    have i2 : Pv.num O (Pv.ofPair name desc) < (Pv.raws O).length := hk2.lt
    have i3 : Pv.num O (Pv.ofText cls) < (Pv.raws O).length := hk3.lt
    have i4 : Pv.num O (Pv.ofText name) < (Pv.raws O).length := hk4.lt
    have i5 : Pv.num O (Pv.ofText desc) < (Pv.raws O).length := hk5.lt
    have HK1 := Lib.hid (fun w h => At.cells (w := w) (A := some ⟨g, o, none⟩) (c := c) h hk1)
    have HK2 := Lib.hid (fun w h => At.cells (w := w) (A := some ⟨g, o, none⟩) (c := c) h hk2)
    have HK3 := Lib.hid (fun w h => At.cells (w := w) (A := some ⟨g, o, none⟩) (c := c) h hk3)
    have HK4 := Lib.hid (fun w h => At.cells (w := w) (A := some ⟨g, o, none⟩) (c := c) h hk4)
    have HK5 := Lib.hid (fun w h => At.cells (w := w) (A := some ⟨g, o, none⟩) (c := c) h hk5)
    have hf : Pv.form tag = 98 := by rcases h9 with rfl | rfl | rfl <;> decide
    have t12 : (tag == 12) = false := by rcases h9 with rfl | rfl | rfl <;> decide
    have t9 : decide (9 ≤ tag) = true := by rcases h9 with rfl | rfl | rfl <;> decide
    have t11 : decide (tag ≤ 11) = true := by rcases h9 with rfl | rfl | rfl <;> decide
    clear hk1 hk2 hk3 hk4 hk5 h1 h3 h4 h5 h6 h7 h9 h12 hcl hok hc ht0 m1 m2 m3 m4 m5 hn hn1 hn2
    generalize Pv.num O (Pv.ofCls cls) = k1 at *
    generalize Pv.num O (Pv.ofPair name desc) = k2 at *
    generalize Pv.num O (Pv.ofText cls) = k3 at *
    generalize Pv.num O (Pv.ofText name) = k4 at *
    generalize Pv.num O (Pv.ofText desc) = k5 at *
    obtain ⟨d0, d1, d2, d3, d4⟩ := r2.out.at_
    have hz := r2.out.lt
    dsimp only at d0 d1 d2 d3 d4
    go_upto_region 13 with fail
    clear d0 d1 d2 d3 d4 hz
    have kx := Lib.hid ((Below.refl w2.heap.size w2).alloc (Nat.le_refl _) (.cells #[.int .i64 tag, .string ⟨#[]⟩, .int .u64 0, .string ⟨#[]⟩, .string ⟨#[]⟩, .string ⟨#[]⟩] 25))
    have v3 := Lib.hid (show VBox (w2.alloc (.cells #[.int .i64 tag, .string ⟨#[]⟩, .int .u64 0, .string ⟨#[]⟩, .string ⟨#[]⟩, .string ⟨#[]⟩] 25)) w2.heap.size ⟨tag, [], 0, [], [], []⟩ from heap_alloc_new _ _)
    generalize w2.alloc (.cells #[.int .i64 tag, .string ⟨#[]⟩, .int .u64 0, .string ⟨#[]⟩, .string ⟨#[]⟩, .string ⟨#[]⟩] 25) = X at kx v3 ⊢
    have q3 := Lib.hid (q2.out.keep kx.out q2.out.lt)
    have r3 := Lib.hid (r2.out.keep kx.out r2.out.lt)
    have X3 := Lib.hid (X2.out.grow kx.out)
    have K3 := Lib.hid (K2.out.trans (kx.out.mono K2.out.size))
    have hKs := K2.out.size
    have n1 : ¬ w.heap.size = w2.heap.size := by have := q2.out.lt; omega
    have n2 : ¬ W.heap.size = w2.heap.size := by have := r2.out.lt; omega
    have n3 : ¬ g = w2.heap.size := by
      have := X2.out.2 (by omega)
      obtain ⟨g', o', e, h, _⟩ := this
      cases e
      omega
    clear q2 r2 X2 K2 hsz kx
    obtain ⟨d0, d1, d2, d3, d4⟩ := r3.out.at_
    have hz := r3.out.lt
    dsimp only at d0 d1 d2 d3 d4
    go_wp2_with fail
    refine (form_any _ _).mono ?_
    rintro e1' w3 ⟨rfl, rfl⟩
    rw [hf]
    obtain ⟨g', o', e', hgl, b0, b1, b2, b3, b4⟩ := HK2.out w3 X3.out
    cases e'
    dsimp only [Pv.ofPair] at b0 b1 b2 b3 b4
    have p2 : decide (k2 < (Pv.raws O).length) = true := decide_eq_true i2
    go_upto_region 25 with fail
    clear d0 d1 d2 d3 d4 hz b0 b1 b2 b3 b4 p2 hgl
    have ky := Lib.hid ((Below.refl w3.heap.size w3).alloc (Nat.le_refl _) (.cells #[.int .i64 12, .string (bs []), .int .u64 0, .int .i64 k4, .int .i64 k5] 49))
    have y4 := Lib.hid (show RBox (w3.alloc (.cells #[.int .i64 12, .string (bs []), .int .u64 0, .int .i64 k4, .int .i64 k5] 49)) w3.heap.size ⟨12, [], 0, k4, k5⟩ from heap_alloc_new _ _)
    generalize w3.alloc (.cells #[.int .i64 12, .string (bs []), .int .u64 0, .int .i64 k4, .int .i64 k5] 49) = Y at ky y4 ⊢
    have q4 := Lib.hid (q3.out.keep ky.out q3.out.lt)
    have r4 := Lib.hid (r3.out.keep ky.out r3.out.lt)
    have v4 := Lib.hid (v3.out.keep ky.out v3.out.lt)
    have X4 := Lib.hid (X3.out.grow ky.out)
    have K4 := Lib.hid (K3.out.trans (ky.out.mono K3.out.size))
    have n4 : ¬ w3.heap.size = w2.heap.size := by have := v3.out.lt; omega
    have hws : w2.heap.size < w3.heap.size := v3.out.lt
    clear q3 r3 v3 X3 K3 ky
    obtain ⟨g', o', e', hgl, b0, b1, b2, b3, b4⟩ := HK1.out Y X4.out
    cases e'
    clear b0 b1 b2 b4
    obtain ⟨g', o', e', _, e0, e1, e2, e3, e4⟩ := HK3.out Y X4.out
    cases e'
    clear e0 e2 e3 e4
    obtain ⟨g', o', e', _, g0, g1, g2, g3, g4⟩ := HK4.out Y X4.out
    cases e'
    clear g0 g2 g3 g4
    obtain ⟨g', o', e', _, m0, m1, m2, m3, m4⟩ := HK5.out Y X4.out
    cases e'
    clear m0 m2 m3 m4 HK1 HK2 HK3 HK4 HK5
    dsimp only [Pv.ofText, Pv.ofCls] at b3 e1 g1 m1
    have d3 := r4.out.at_.2.2.2.1
    have y3 := y4.out.at_.2.2.2.1
    have y5 := y4.out.at_.2.2.2.2
    dsimp only at d3 y3 y5
    have hz := r4.out.lt
    have hz4 := y4.out.lt
    have f3 := (blk_facts v4.out).2 3
    have f4 := (blk_facts v4.out).2 4
    have f5 := (blk_facts v4.out).2 5
    have hz3 := v4.out.lt
    have u3 : Y.cell? ⟨w2.heap.size, 3, none⟩ = some (.string ⟨#[]⟩) := v4.out.at_.2.2.2.1
    have u4 : Y.cell? ⟨w2.heap.size, 4, none⟩ = some (.string ⟨#[]⟩) := v4.out.at_.2.2.2.2.1
    have u5 : Y.cell? ⟨w2.heap.size, 5, none⟩ = some (.string ⟨#[]⟩) := v4.out.at_.2.2.2.2.2
    have j1 : (k1 : Int) < ((Pv.raws O).length : Int) := by omega
    have j3 : (k3 : Int) < ((Pv.raws O).length : Int) := by omega
    have j4 : (k4 : Int) < ((Pv.raws O).length : Int) := by omega
    have j5 : (k5 : Int) < ((Pv.raws O).length : Int) := by omega
    go_region
    go_upto_region 26 with fail
    have hgr0 := grownBy_set Y w2.heap.size 3 v4.out (.string (bs cls))
    have hv0 := vbox_set3 v4.out cls
    have hgr1 := grownBy_set (Y.setCell ⟨w2.heap.size, 3, none⟩ (.string (bs cls))) w2.heap.size 4 hv0 (.string (bs name))
    have hv1 := vbox_set4 hv0 name
    have hgr2 := grownBy_set ((Y.setCell ⟨w2.heap.size, 3, none⟩ (.string (bs cls))).setCell ⟨w2.heap.size, 4, none⟩ (.string (bs name))) w2.heap.size 5 hv1 (.string (bs desc))
    have hv2 := vbox_set5 hv1 desc
    have hq0 : VBox (Y.setCell ⟨w2.heap.size, 3, none⟩ (.string (bs cls))) w.heap.size Pv.zero := (hgr0.block _ q4.out.lt (fun e => n1 (Option.some.inj e))).trans q4.out
    have hq1 : VBox ((Y.setCell ⟨w2.heap.size, 3, none⟩ (.string (bs cls))).setCell ⟨w2.heap.size, 4, none⟩ (.string (bs name))) w.heap.size Pv.zero := (hgr1.block _ hq0.lt (fun e => n1 (Option.some.inj e))).trans hq0
    have hq2 : VBox (((Y.setCell ⟨w2.heap.size, 3, none⟩ (.string (bs cls))).setCell ⟨w2.heap.size, 4, none⟩ (.string (bs name))).setCell ⟨w2.heap.size, 5, none⟩ (.string (bs desc))) w.heap.size Pv.zero := (hgr2.block _ hq1.lt (fun e => n1 (Option.some.inj e))).trans hq1
    have hB1 := ((K4.out.setCell (p := ⟨w2.heap.size, 3, none⟩) hKs (.string (bs cls))).setCell (p := ⟨w2.heap.size, 4, none⟩) hKs (.string (bs name))).setCell (p := ⟨w2.heap.size, 5, none⟩) hKs (.string (bs desc))
    obtain ⟨Z, eZ⟩ : ∃ Z, Z = (((Y.setCell ⟨w2.heap.size, 3, none⟩ (.string (bs cls))).setCell ⟨w2.heap.size, 4, none⟩ (.string (bs name))).setCell ⟨w2.heap.size, 5, none⟩ (.string (bs desc))).drew := ⟨_, rfl⟩
    have v9 := Lib.hid (show VBox Z w2.heap.size ⟨tag, [], 0, cls, name, desc⟩ from by rw [eZ]; exact hv2)
    have q9 := Lib.hid (show VBox Z w.heap.size Pv.zero from by rw [eZ]; exact hq2)
    have K9 := Lib.hid (show Below w.heap.size w Z from by rw [eZ]; exact hB1.drew)
    rw [← eZ]
    clear eZ hgr0 hgr1 hgr2 hv0 hv1 hv2 hq0 hq1 hq2 hB1 q4 r4 v4 X4 K4 y4 b3 e1 g1 m1 d3 y3 y5 hz hz4 f3 f4 f5 hz3 u3 u4 u5 n2 n3 n4 hgl
    obtain ⟨d0, d1, d2, d3, d4, d5⟩ := v9.out.at_
    have hz := v9.out.lt
    obtain ⟨z0, z1, z2, z3, z4, z5⟩ := zero_cells q9.out
    have f0 := (blk_facts q9.out).2 0
    have f1 := (blk_facts q9.out).2 1
    have f2 := (blk_facts q9.out).2 2
    have f3 := (blk_facts q9.out).2 3
    have f4 := (blk_facts q9.out).2 4
    have f5 := (blk_facts q9.out).2 5
    have hz6 := q9.out.lt
    dsimp only at d0 d1 d2 d3 d4 d5
    go_wp2_with fail
    have hfin := vbox_store q9.out ⟨tag, [], 0, cls, name, desc⟩
    have hbel := below_store K9.out (Nat.le_refl _) ⟨tag, [], 0, cls, name, desc⟩
    unfold stored at hfin hbel
    have e0 : ((0 : Nat) : Int) = 0 := rfl
    have e1 : bs [] = (⟨#[]⟩ : ByteArray) := rfl
    simp only [e0, e1] at hfin hbel
    refine val_ret2 (g := w.heap.size) (v := ⟨tag, [], 0, cls, name, desc⟩) (x := .int .i64 0) rfl rfl rfl hfin ⟨rfl, hbel⟩
end Go.Proofs.Ytimheacdaafodaa
