/- blocks.fixedCodes. -/
import Derived.Test.YtjbbhfloomejoaaPfC
import Derived.Deep.DeepCutAuto
import Derived.OneCell
import Derived.ChangeKeysEq
namespace Go.Proofs.Ytjbbhfloomejoaa
open Go.RowKit
def Fx.sign (k : Nat) : Nat := if 144 ≤ k ∧ k < 256 then 9 else if 256 ≤ k ∧ k < 280 then 7 else 8
theorem madeI (n : Nat) (_z : Int) : madeCells (Value.int .i64 0).cells (n * 1) = (Fi n fun _ => 0).toArray := by
  apply Array.toList_inj.1
  unfold madeCells Fi
  rw [Array.toList_map, Array.toList_range]
  show _ = List.map _ _
  rw [Nat.mul_one]
  refine List.map_congr_left fun k _ => ?_
  show (#[Value.int .i64 0] : Array Value)[k % 1]! = _
  rw [Nat.mod_one]
  rfl
theorem make_run (n : Nat) (hn : n ≤ 100000) (x : World) : (Instr.makeSlice 56 (.int .i64 (n : Int)) (.int .i64 (n : Int))).run Try.prog x = .ok (.slice (some ⟨x.heap.size, 0, none⟩) n n) (x.alloc (.cells (Fi n fun _ => 0).toArray 3)) := by
  obtain ⟨i0, hi, hz0, hz1, hz2⟩ := info_parts infoInt
  have := run_make (P := Try.prog) x 56 3 i0 _ Try.underlying56 hi hz0 .i64 .i64 (n : Int) (n : Int) (by omega) (Int.le_refl _) (by rw [hz2]; omega) (by omega)
  rw [hz1, Int.toNat_natCast, madeI n 0] at this
  exact this
def Fx.signs : List Nat := (List.range 288).map Fx.sign
def Fx.fars : List Nat := (List.range 32).map fun _ => 5
theorem Fx.signs_len : Fx.signs.length = 288 := by simp [Fx.signs]
theorem Fx.fars_len : Fx.fars.length = 32 := by simp [Fx.fars]
theorem Fx.signs_get {k : Nat} (h : k < 288) : Fx.signs[k]? = some (Fx.sign k) := by
  unfold Fx.signs
  rw [List.getElem?_map, List.getElem?_range h]; rfl
theorem Fx.fars_get {k : Nat} (h : k < 32) : Fx.fars[k]? = some 5 := by
  unfold Fx.fars
  rw [List.getElem?_map, List.getElem?_range h]; rfl
theorem Fx.signs_le : ∀ n ∈ Fx.signs, n ≤ 15 := fun n hn => by
  obtain ⟨k, _, rfl⟩ := List.mem_map.1 hn
  unfold Fx.sign
  split
  · decide
  · split <;> decide
theorem Fx.fars_le : ∀ n ∈ Fx.fars, n ≤ 15 := fun n hn => by
  obtain ⟨k, _, rfl⟩ := List.mem_map.1 hn
  decide
theorem Fx.signs_kind : Pf.kind Fx.signs = 3 := by kernel_rfl
theorem Fx.fars_kind : Pf.kind Fx.fars = 3 := by kernel_rfl
theorem IB.ints {w : World} {B n : Nat} {t : TypeId} {f : Nat → Nat} (h : IB w B n t f) {l : List Nat} (hl : l.length = n) (hg : ∀ k, k < n → l[k]? = some (f k)) : Ints w (some ⟨B, 0, none⟩) n (il l) :=
  ⟨by rw [il_len, hl]; exact Nat.le_refl _, fun _ => ⟨B, 0, rfl, h.lt, fun j x hx => by
    have hj : j < n := by
      have := (List.getElem?_eq_some_iff.1 hx).1
      rw [il_len, hl] at this
      exact this
    rw [il_get (hg j hj)] at hx
    cases hx
    rw [Nat.zero_add]
    exact h.cell hj⟩⟩
/-- A code, made of lengths: its blocks lie behind the base. -/
structure CodeS (x : World) (base b : Nat) (l : List Nat) : Prop where
  out : ∃ lv G ov, XB x b 19 118 (cdf lv (.slice (some ⟨G, 0, none⟩) l.length l.length) (Pf.cc l 15 0) ov) ∧ IRow x base lv (il l) ∧ UB x G l.length 40 (Pf.wd l) ∧ IRow x base ov (il (Pf.ord l 15)) ∧ base ≤ G ∧ base ≤ b
theorem CodeS.grow {x y : World} {base b : Nat} {l : List Nat} (h : CodeS x base b l) (k : Below x.heap.size x y) : CodeS y base b l := by
  obtain ⟨lv, G, ov, h1, h2, h3, h4, h5, h6⟩ := h.out
  exact ⟨lv, G, ov, h1.grow k, h2.grow k, h3.grow k, h4.grow k, h5, h6⟩
theorem CodeS.lower {x : World} {base base' b : Nat} {l : List Nat} (h : CodeS x base b l) (k : base' ≤ base) : CodeS x base' b l := by
  obtain ⟨lv, G, ov, h1, h2, h3, h4, h5, h6⟩ := h.out
  exact ⟨lv, G, ov, h1, irow_lower h2 k, h3, irow_lower h4 k, by omega, by omega⟩
theorem IRow.setElse {x : World} {base : Nat} {u : Value} {l : List Int} (h : IRow x base u l) {b i : Nat} (v : Value) (hb : b < base) : IRow (x.setCell ⟨b, i, none⟩ v) base u l := by
  have k : x.grownBy (x.setCell ⟨b, i, none⟩ v) (some b) := ⟨rfl, rfl, rfl, by simp [World.setCell], fun g _ hg => set_else' _ _ (by show b ≠ g; exact fun e => hg (by rw [e]))⟩
  exact World.ownsRow.kept h k (.inr (fun e => by have := h.base_le e; omega))
theorem CodeS.set {x : World} {base b : Nat} {l : List Nat} (h : CodeS x base b l) {t i : Nat} (v : Value) (ht : t < base) : CodeS (x.setCell ⟨t, i, none⟩ v) base b l := by
  obtain ⟨lv, G, ov, h1, h2, h3, h4, h5, h6⟩ := h.out
  exact ⟨lv, G, ov, h1.else_ _ (by omega), h2.setElse _ ht, h3.else_ _ (by omega), h4.setElse _ ht, h5, h6⟩
/-- Four blocks, one behind another. -/
theorem four (w : World) (o0 o1 o2 o3 : Obj) : ((((w.alloc o0).alloc o1).alloc o2).alloc o3).drew.heap[w.heap.size]? = some o0 ∧ ((((w.alloc o0).alloc o1).alloc o2).alloc o3).drew.heap[w.heap.size + 1]? = some o1 ∧ ((((w.alloc o0).alloc o1).alloc o2).alloc o3).drew.heap[w.heap.size + 1 + 1]? = some o2 ∧ ((((w.alloc o0).alloc o1).alloc o2).alloc o3).drew.heap[w.heap.size + 1 + 1 + 1]? = some o3 ∧ Below w.heap.size w ((((w.alloc o0).alloc o1).alloc o2).alloc o3).drew := by
  have s1 : (w.alloc o0).heap.size = w.heap.size + 1 := by show (w.heap.push _).size = _; simp
  have s2 : ((w.alloc o0).alloc o1).heap.size = w.heap.size + 1 + 1 := by show ((w.alloc o0).heap.push _).size = _; simp [s1]
  have s3 : (((w.alloc o0).alloc o1).alloc o2).heap.size = w.heap.size + 1 + 1 + 1 := by show (((w.alloc o0).alloc o1).heap.push _).size = _; simp [s2]
  have b1 := (Below.refl w.heap.size w).alloc (Nat.le_refl _) o0
  have b2 := (Below.refl (w.alloc o0).heap.size (w.alloc o0)).alloc (Nat.le_refl _) o1
  have b3 := (Below.refl ((w.alloc o0).alloc o1).heap.size ((w.alloc o0).alloc o1)).alloc (Nat.le_refl _) o2
  have b4 := ((Below.refl (((w.alloc o0).alloc o1).alloc o2).heap.size (((w.alloc o0).alloc o1).alloc o2)).alloc (Nat.le_refl _) o3).drew
  have e0 := heap_alloc_new w o0
  have e1 := heap_alloc_new (w.alloc o0) o1
  have e2 := heap_alloc_new ((w.alloc o0).alloc o1) o2
  have e3 := heap_alloc_new (((w.alloc o0).alloc o1).alloc o2) o3
  rw [s1] at e1 b2
  rw [s2] at e2 b3
  rw [s3] at e3 b4
  refine ⟨(b4.block _ (by omega)).trans ((b3.block _ (by omega)).trans ((b2.block _ (by omega)).trans e0)), (b4.block _ (by omega)).trans ((b3.block _ (by omega)).trans e1), (b4.block _ (by omega)).trans e2, e3, b1.trans ((b2.mono (by omega)).trans ((b3.mono (by omega)).trans (b4.mono (by omega))))⟩
/-- On the way: the result's box, the codes' box, both rows of lengths. -/
structure FxS (x : World) (R T L D : Nat) (p q : Value) (f g : Nat → Nat) : Prop where
  res : x.heap[R]? = some (.cells #[.pointer none, .pointer none, .slice none 0 0, .slice none 0 0] 58 (0, 0))
  box : x.heap[T]? = some (.cells #[p, q, .slice (some ⟨L, 0, none⟩) 288 288, .slice (some ⟨D, 0, none⟩) 32 32] 58 (0, 0))
  long : IB x L 288 3 f
  wide : IB x D 32 3 g
  lt : R < T ∧ R < L ∧ R < D ∧ T ≠ L ∧ T ≠ D ∧ L ≠ D
section
variable {x : World} {R T L D : Nat} {p q : Value} {f g : Nat → Nat}
theorem FxS.setL (h : FxS x R T L D p q f g) {i c : Nat} {f' : Nat → Nat} (hf : ∀ k, k < 288 → f' k = if k = i then c else f k) : FxS (x.setCell ⟨L, i, none⟩ (.int .i64 (c : Nat))) R T L D p q f' g := by
  obtain ⟨h1, h2, h3, h4, h5⟩ := h
  exact ⟨(set_else' _ _ (by show L ≠ R; omega)).trans h1, (set_else' _ _ (by show L ≠ T; omega)).trans h2, h3.set hf, h4.else_ _ (by omega), h5⟩
theorem FxS.setD (h : FxS x R T L D p q f g) {i c : Nat} {g' : Nat → Nat} (hf : ∀ k, k < 32 → g' k = if k = i then c else g k) : FxS (x.setCell ⟨D, i, none⟩ (.int .i64 (c : Nat))) R T L D p q f g' := by
  obtain ⟨h1, h2, h3, h4, h5⟩ := h
  exact ⟨(set_else' _ _ (by show D ≠ R; omega)).trans h1, (set_else' _ _ (by show D ≠ T; omega)).trans h2, h3.else_ _ (by omega), h4.set hf, h5⟩
theorem FxS.setP (h : FxS x R T L D p q f g) (p' : Value) : FxS (x.setCell ⟨T, 0, none⟩ p') R T L D p' q f g := by
  obtain ⟨h1, h2, h3, h4, h5⟩ := h
  exact ⟨(set_else' _ _ (by show T ≠ R; omega)).trans h1, set_at' (k := 0) h2 p', h3.else_ _ (by omega), h4.else_ _ (by omega), h5⟩
theorem FxS.setQ (h : FxS x R T L D p q f g) (q' : Value) : FxS (x.setCell ⟨T, 1, none⟩ q') R T L D p q' f g := by
  obtain ⟨h1, h2, h3, h4, h5⟩ := h
  exact ⟨(set_else' _ _ (by show T ≠ R; omega)).trans h1, set_at' (k := 1) h2 q', h3.else_ _ (by omega), h4.else_ _ (by omega), h5⟩
theorem FxS.grow {y : World} (h : FxS x R T L D p q f g) (k : Below x.heap.size x y) : FxS y R T L D p q f g := by
  obtain ⟨h1, h2, h3, h4, h5⟩ := h
  exact ⟨(k.block _ (Array.getElem?_eq_some_iff.1 h1).1).trans h1, (k.block _ (Array.getElem?_eq_some_iff.1 h2).1).trans h2, h3.grow k, h4.grow k, h5⟩
theorem FxS.cells (h : FxS x R T L D p q f g) : x.cell? ⟨T, 0, none⟩ = some p ∧ x.cell? ⟨T, 1, none⟩ = some q ∧ x.cell? ⟨T, 2, none⟩ = some (.slice (some ⟨L, 0, none⟩) 288 288) ∧ x.cell? ⟨T, 3, none⟩ = some (.slice (some ⟨D, 0, none⟩) 32 32) ∧ T < x.heap.size :=
  ⟨by rw [Lib.cell_of_heap h.box]; rfl, by rw [Lib.cell_of_heap h.box]; rfl, by rw [Lib.cell_of_heap h.box]; rfl, by rw [Lib.cell_of_heap h.box]; rfl, (Array.getElem?_eq_some_iff.1 h.box).1⟩
end
set_option maxHeartbeats 8000000 in
set_option maxRecDepth 100000 in
theorem fixedCodes_any (w : World) : Calls Try.prog 27 #[] w fun e w' => ∃ sb fb L D, e = .returned (.agg #[.pointer (some ⟨sb, 0, none⟩), .pointer (some ⟨fb, 0, none⟩), .slice (some ⟨L, 0, none⟩) 288 288, .slice (some ⟨D, 0, none⟩) 32 32]) ∧ CodeS w' w.heap.size sb Fx.signs ∧ CodeS w' w.heap.size fb Fx.fars ∧ IB w' L 288 3 Fx.sign ∧ IB w' D 32 3 (fun _ => 5) ∧ w.heap.size ≤ L ∧ w.heap.size ≤ D ∧ Below w.heap.size w w' := by
  go_enter Try.func27, Try.ntmps27
  go_upto_region 1 with fail
  go_cut [1] (fun s1 wx => ∃ T L D, s1 = .pointer (some ⟨T, 0, none⟩) ∧ FxS wx w.heap.size T L D (.pointer none) (.pointer none) (fun _ => 0) (fun _ => 0) ∧ Below w.heap.size w wx)
  case first =>
    as_aux_lemma =>
    have mk1 := make_run 288 (by decide)
    have mk2 := make_run 32 (by decide)
    rw [show ((288 : Nat) : Int) = 288 from rfl] at mk1
    rw [show ((32 : Nat) : Int) = 32 from rfl] at mk2
    go_region
    all_goals
      clear mk1 mk2
      rename_i J K' hJ hK'
      refine hK' _ _ (Met.intro (hJ _ _ ?_))
      repeat apply Exists.intro
      refine ⟨?_, rfl⟩
      obtain ⟨h0, h1, h2, h3, h4⟩ := four w _ _ _ _
      first
        | exact ⟨_, _, _, rfl, ⟨h0, h1, h2, h3, by omega⟩, h4⟩
        | exact ⟨_, _, _, rfl, ⟨h0, h1, h3, h2, by omega⟩, h4⟩
        | exact ⟨_, _, _, rfl, ⟨h0, h2, h1, h3, by omega⟩, h4⟩
        | exact ⟨_, _, _, rfl, ⟨h0, h2, h3, h1, by omega⟩, h4⟩
        | exact ⟨_, _, _, rfl, ⟨h0, h3, h1, h2, by omega⟩, h4⟩
        | exact ⟨_, _, _, rfl, ⟨h0, h3, h2, h1, by omega⟩, h4⟩
  case rest =>
  obtain ⟨T, L, D, rfl, hF, hK⟩ := hcut
  obtain ⟨lt1, lt2, lt3, lt4, lt5, lt6⟩ := hF.lt
  obtain ⟨_, _, c2, c3, fz⟩ := hF.cells
  have F0 := Lib.hid hF
  have K0 := Lib.hid hK
  clear hF hK
  go_upto_region 3 with fail
  clear c2 c3 fz
  go_loopw [10] (fun s10 wr => ∃ i : Nat, i ≤ 288 ∧ s10 = .int .i64 (i : Nat) ∧ FxS wr w.heap.size T L D (.pointer none) (.pointer none) (fun k => if k < i then Fx.sign k else 0) (fun _ => 0) ∧ Below w.heap.size w wr) (fun s10 _ => 288 - (intOf s10).toNat)
  case atStart => exact ⟨0, by decide, rfl, F0.out, K0.out⟩
  case round =>
    obtain ⟨i, hi, rfl, hF, hK⟩ := hrel
    have F1 := Lib.hid hF
    have K := Lib.hid hK
    obtain ⟨_, _, c2, c3, fz⟩ := hF.cells
    clear F0 K0
    by_cases h1 : i < 288
    · have q0 : (i : Int) < 288 := by omega
      have q1 : ¬ ((i : Int) < 0) := by omega
      have d1 := hF.long.cell h1
      rw [if_neg (Nat.lt_irrefl i)] at d1
      have f1 := (blk_facts hF.long).2 i
      have zz := hF.long.lt
      have hF2 := hF.setL (i := i) (c := 8) (f' := fun k => if k = i then 8 else if k < i then Fx.sign k else 0) (fun k hk => rfl)
      have k2 := K.out.setCell (p := ⟨L, i, none⟩) (show w.heap.size ≤ L by omega) (.int .i64 ((8 : Nat) : Int))
      obtain ⟨_, _, e2, e3, ez⟩ := hF2.cells
      have d2 := hF2.long.cell h1
      rw [if_pos rfl] at d2
      have f2 := (blk_facts hF2.long).2 i
      have zz2 := hF2.long.lt
      rw [show (((8 : Nat) : Int)) = 8 from rfl] at e2 e3 ez d2 f2 zz2 hF2 k2
      have F2 := Lib.hid hF2
      have K2 := Lib.hid k2
      by_cases h2 : 144 ≤ i ∧ i < 256
      · as_aux_lemma =>
        have F3 := Lib.hid (show FxS ((wr.setCell ⟨L, i, none⟩ (.int .i64 8)).setCell ⟨L, i, none⟩ (.int .i64 ((9 : Nat) : Int))) w.heap.size T L D (.pointer none) (.pointer none) (fun k => if k < i + 1 then Fx.sign k else 0) (fun _ => 0) from hF2.setL (i := i) (c := 9) (fun k hk => by
          by_cases e : k = i
          · subst e; rw [if_pos rfl, if_pos (by omega)]; unfold Fx.sign; rw [if_pos h2]
          · rw [if_neg e, if_neg e]
            by_cases e4 : k < i
            · rw [if_pos e4, if_pos (by omega)]
            · rw [if_neg e4, if_neg (by omega)]))
        have K3 := Lib.hid (K2.out.setCell (p := ⟨L, i, none⟩) (show w.heap.size ≤ L by omega) (.int .i64 ((9 : Nat) : Int)))
        have g1 : (i : Int) ≥ 144 := by omega
        have g2 : (i : Int) < 256 := by omega
        clear hF hK hF2 k2 F1 K F2 K2
        go_wp2_with fail
        exact ⟨⟨i + 1, h1, rfl, F3.out, K3.out⟩, next_less h1⟩
      · by_cases h3 : 256 ≤ i ∧ i < 280
        · as_aux_lemma =>
          have F3 := Lib.hid (show FxS ((wr.setCell ⟨L, i, none⟩ (.int .i64 8)).setCell ⟨L, i, none⟩ (.int .i64 ((7 : Nat) : Int))) w.heap.size T L D (.pointer none) (.pointer none) (fun k => if k < i + 1 then Fx.sign k else 0) (fun _ => 0) from hF2.setL (i := i) (c := 7) (fun k hk => by
            by_cases e : k = i
            · subst e; rw [if_pos rfl, if_pos (by omega)]; unfold Fx.sign; rw [if_neg h2, if_pos h3]
            · rw [if_neg e, if_neg e]
              by_cases e4 : k < i
              · rw [if_pos e4, if_pos (by omega)]
              · rw [if_neg e4, if_neg (by omega)]))
          have K3 := Lib.hid (K2.out.setCell (p := ⟨L, i, none⟩) (show w.heap.size ≤ L by omega) (.int .i64 ((7 : Nat) : Int)))
          have g1 : (i : Int) ≥ 144 := by omega
          have g2 : ¬ ((i : Int) < 256) := by omega
          have g3 : (i : Int) ≥ 256 := by omega
          have g4 : (i : Int) < 280 := by omega
          clear hF hK hF2 k2 F1 K F2 K2 h2
          go_wp2_with fail
          exact ⟨⟨i + 1, h1, rfl, F3.out, K3.out⟩, next_less h1⟩
        · as_aux_lemma =>
          have F3 := Lib.hid (show FxS (wr.setCell ⟨L, i, none⟩ (.int .i64 8)) w.heap.size T L D (.pointer none) (.pointer none) (fun k => if k < i + 1 then Fx.sign k else 0) (fun _ => 0) from by
            refine ⟨hF2.res, hF2.box, hF2.long.ext (fun k hk => ?_), hF2.wide, hF2.lt⟩
            by_cases e : k = i
            · subst e; rw [if_pos rfl, if_pos (by omega)]; unfold Fx.sign; rw [if_neg h2, if_neg h3]
            · rw [if_neg e]
              by_cases e4 : k < i
              · rw [if_pos e4, if_pos (by omega)]
              · rw [if_neg e4, if_neg (by omega)])
          by_cases h4 : i < 144
          · have g1 : ¬ ((i : Int) ≥ 144) := by omega
            have g2 : ¬ ((i : Int) ≥ 256) := by omega
            clear hF hK hF2 k2 F1 K F2 h2 h3
            go_wp2_with fail
            exact ⟨⟨i + 1, h1, rfl, F3.out, K2.out⟩, next_less h1⟩
          · have g1 : (i : Int) ≥ 144 := by omega
            have g2 : ¬ ((i : Int) < 256) := by omega
            have g3 : (i : Int) ≥ 256 := by omega
            have g4 : ¬ ((i : Int) < 280) := by omega
            clear hF hK hF2 k2 F1 K F2 h2 h3
            go_wp2_with fail
            exact ⟨⟨i + 1, h1, rfl, F3.out, K2.out⟩, next_less h1⟩
    · as_aux_lemma =>
      obtain rfl : i = 288 := by omega
      have F2 := Lib.hid (show FxS wr w.heap.size T L D (.pointer none) (.pointer none) Fx.sign (fun _ => 0) from ⟨hF.res, hF.box, hF.long.ext (fun k hk => by rw [if_pos hk]), hF.wide, hF.lt⟩)
      clear hF hK F1
      go_upto_region 12 with fail
      clear c2 c3 fz
      go_loopw [41] (fun s41 wr => ∃ i : Nat, i ≤ 32 ∧ s41 = .int .i64 (i : Nat) ∧ FxS wr w.heap.size T L D (.pointer none) (.pointer none) Fx.sign (fun k => if k < i then 5 else 0) ∧ Below w.heap.size w wr) (fun s41 _ => 32 - (intOf s41).toNat)
      case atStart => exact ⟨0, by decide, rfl, F2.out, K.out⟩
      case round =>
        obtain ⟨i, hi, rfl, hF, hK⟩ := hrel
        have F1 := Lib.hid hF
        have K1 := Lib.hid hK
        obtain ⟨_, _, c2, c3, fz⟩ := hF.cells
        clear F2 K
        by_cases h2 : i < 32
        · as_aux_lemma =>
          have q0 : (i : Int) < 32 := by omega
          have q1 : ¬ ((i : Int) < 0) := by omega
          have d1 := hF.wide.cell h2
          rw [if_neg (Nat.lt_irrefl i)] at d1
          have f1 := (blk_facts hF.wide).2 i
          have zz := hF.wide.lt
          have F3 := Lib.hid (hF.setD (i := i) (c := 5) (g' := fun k => if k < i + 1 then 5 else 0) (fun k hk => by
            by_cases e : k = i
            · subst e; rw [if_pos rfl, if_pos (by omega)]
            · rw [if_neg e]
              by_cases e4 : k < i
              · rw [if_pos e4, if_pos (by omega)]
              · rw [if_neg e4, if_neg (by omega)]))
          have K3 := Lib.hid (K1.out.setCell (p := ⟨D, i, none⟩) (show w.heap.size ≤ D by omega) (.int .i64 ((5 : Nat) : Int)))
          clear hF hK F1 K1
          go_wp2_with fail
          exact ⟨⟨i + 1, h2, rfl, F3.out, K3.out⟩, next_less h2⟩
        · as_aux_lemma =>
          obtain rfl : i = 32 := by omega
          have hF3 : FxS wr w.heap.size T L D (.pointer none) (.pointer none) Fx.sign (fun _ => 5) := ⟨hF.res, hF.box, hF.long, hF.wide.ext (fun k hk => by rw [if_pos hk]), hF.lt⟩
          have HN := new_any (some ⟨L, 0, none⟩) 288 Fx.signs wr (hF3.long.ints Fx.signs_len (fun k hk => Fx.signs_get hk)) (fun e => by cases e) Fx.signs_le (by rw [Fx.signs_len]; decide) (by rw [Fx.signs_kind]; decide)
          rw [Fx.signs_len] at HN
          have H := Lib.hid HN
          have F5T : T < wr.heap.size := (Array.getElem?_eq_some_iff.1 hF3.box).1
          have F3 := Lib.hid hF3
          clear hF hK F1 HN hF3
          go_upto_region 16 with fail
          go_wp2_with fail
          refine H.out.mono ?_
          rintro e w1 ⟨sb, lv, G, ov, rfl, x1, x2, x3, x4, x5, x6, hb⟩
          have S1 := Lib.hid (show CodeS w1 wr.heap.size sb Fx.signs from ⟨lv, G, ov, by rw [Fx.signs_len]; exact x1, x2, by rw [Fx.signs_len]; exact x3, x4, x5, x6⟩)
          have hF4 := F3.out.grow hb
          have hsz := hb.size
          have K4 := Lib.hid (K1.out.trans (hb.mono K1.out.size))
          clear x1 x2 x3 x4 x5 x6 hb H c2 c3 fz F3
          obtain ⟨c0, c1, c2, c3, fz⟩ := hF4.cells
          have f0 := (blk_facts hF4.box).2 0
          have F4 := Lib.hid (hF4.setP (.pointer (some ⟨sb, 0, none⟩)))
          have S4 := Lib.hid (S1.out.set (t := T) (i := 0) (.pointer (some ⟨sb, 0, none⟩)) F5T)
          have KS4 := Lib.hid (K4.out.setCell (p := ⟨T, 0, none⟩) (show w.heap.size ≤ T by omega) (.pointer (some ⟨sb, 0, none⟩)))
          clear hF4 S1 K4
          go_upto_region 17 with fail
          clear c0 c1 c2 c3 fz f0
          have hz4 : w1.heap.size ≤ (w1.setCell ⟨T, 0, none⟩ (.pointer (some ⟨sb, 0, none⟩))).heap.size := by simp [World.setCell]
          generalize w1.setCell ⟨T, 0, none⟩ (.pointer (some ⟨sb, 0, none⟩)) = W4 at F4 S4 KS4 hz4 ⊢
          have HN := new_any (some ⟨D, 0, none⟩) 32 Fx.fars W4 (F4.out.wide.ints Fx.fars_len (fun k hk => Fx.fars_get hk)) (fun e => by cases e) Fx.fars_le (by rw [Fx.fars_len]; decide) (by rw [Fx.fars_kind]; decide)
          rw [Fx.fars_len] at HN
          have H := Lib.hid HN
          clear HN
          obtain ⟨c0, c1, c2, c3, fz⟩ := F4.out.cells
          go_wp2_with fail
          refine H.out.mono ?_
          rintro e w5 ⟨fb, lv, G, ov, rfl, x1, x2, x3, x4, x5, x6, hb⟩
          have S5 := Lib.hid (show CodeS w5 W4.heap.size fb Fx.fars from ⟨lv, G, ov, by rw [Fx.fars_len]; exact x1, x2, by rw [Fx.fars_len]; exact x3, x4, x5, x6⟩)
          have S6 := Lib.hid (S4.out.grow hb)
          have hF6 := F4.out.grow hb
          have hsz5 := hb.size
          have K6 := Lib.hid (KS4.out.trans (hb.mono KS4.out.size))
          have hT4 : T < W4.heap.size := (Array.getElem?_eq_some_iff.1 F4.out.box).1
          clear x1 x2 x3 x4 x5 x6 hb H c0 c1 c2 c3 fz F4 S4 KS4
          obtain ⟨c0, c1, c2, c3, fz⟩ := hF6.cells
          have f1 := (blk_facts hF6.box).2 1
          have F7 := Lib.hid (hF6.setQ (.pointer (some ⟨fb, 0, none⟩)))
          have S7 := Lib.hid (S5.out.set (t := T) (i := 1) (.pointer (some ⟨fb, 0, none⟩)) hT4)
          have S8 := Lib.hid (S6.out.set (t := T) (i := 1) (.pointer (some ⟨fb, 0, none⟩)) F5T)
          have K7 := Lib.hid (K6.out.setCell (p := ⟨T, 1, none⟩) (show w.heap.size ≤ T by omega) (.pointer (some ⟨fb, 0, none⟩)))
          clear hF6 S5 S6 K6
          go_upto_region 18 with fail
          clear c0 c1 c2 c3 fz f1
          generalize w5.setCell ⟨T, 1, none⟩ (.pointer (some ⟨fb, 0, none⟩)) = W7 at F7 S7 S8 K7 ⊢
          obtain ⟨c0, c1, c2, c3, fz⟩ := F7.out.cells
          have r0 : W7.cell? ⟨w.heap.size, 0, none⟩ = some (.pointer none) := by rw [Lib.cell_of_heap F7.out.res]; rfl
          have r1 : W7.cell? ⟨w.heap.size, 1, none⟩ = some (.pointer none) := by rw [Lib.cell_of_heap F7.out.res]; rfl
          have r2 : W7.cell? ⟨w.heap.size, 2, none⟩ = some (.slice none 0 0) := by rw [Lib.cell_of_heap F7.out.res]; rfl
          have r3 : W7.cell? ⟨w.heap.size, 3, none⟩ = some (.slice none 0 0) := by rw [Lib.cell_of_heap F7.out.res]; rfl
          have g0 := (blk_facts F7.out.res).2 0
          have g1 := (blk_facts F7.out.res).2 1
          have g2 := (blk_facts F7.out.res).2 2
          have g3 := (blk_facts F7.out.res).2 3
          have gz := (Array.getElem?_eq_some_iff.1 F7.out.res).1
          go_wp2_with fail
          clear r0 r1 r2 r3 g0 g1 g2 g3 gz c0 c1 c2 c3 fz
          have hY : ((((W7.setCell ⟨w.heap.size, 0, none⟩ (.pointer (some ⟨sb, 0, none⟩))).setCell ⟨w.heap.size, 1, none⟩ (.pointer (some ⟨fb, 0, none⟩))).setCell ⟨w.heap.size, 2, none⟩ (.slice (some ⟨L, 0, none⟩) 288 288)).setCell ⟨w.heap.size, 3, none⟩ (.slice (some ⟨D, 0, none⟩) 32 32)).heap[w.heap.size]? = some (.cells #[.pointer (some ⟨sb, 0, none⟩), .pointer (some ⟨fb, 0, none⟩), .slice (some ⟨L, 0, none⟩) 288 288, .slice (some ⟨D, 0, none⟩) 32 32] 58 (0, 0)) :=
            set_at' (k := 3) (set_at' (k := 2) (set_at' (k := 1) (set_at' (k := 0) F7.out.res _) _) _) _
          have hS1 := (((S8.out.set (t := w.heap.size) (i := 0) (.pointer (some ⟨sb, 0, none⟩)) (by omega)).set (t := w.heap.size) (i := 1) (.pointer (some ⟨fb, 0, none⟩)) (by omega)).set (t := w.heap.size) (i := 2) (.slice (some ⟨L, 0, none⟩) 288 288) (by omega)).set (t := w.heap.size) (i := 3) (.slice (some ⟨D, 0, none⟩) 32 32) (by omega)
          have hS2 := (((S7.out.set (t := w.heap.size) (i := 0) (.pointer (some ⟨sb, 0, none⟩)) (by omega)).set (t := w.heap.size) (i := 1) (.pointer (some ⟨fb, 0, none⟩)) (by omega)).set (t := w.heap.size) (i := 2) (.slice (some ⟨L, 0, none⟩) 288 288) (by omega)).set (t := w.heap.size) (i := 3) (.slice (some ⟨D, 0, none⟩) 32 32) (by omega)
          have hI1 := (((F7.out.long.else_ (b := w.heap.size) (i := 0) (.pointer (some ⟨sb, 0, none⟩)) (by omega)).else_ (b := w.heap.size) (i := 1) (.pointer (some ⟨fb, 0, none⟩)) (by omega)).else_ (b := w.heap.size) (i := 2) (.slice (some ⟨L, 0, none⟩) 288 288) (by omega)).else_ (b := w.heap.size) (i := 3) (.slice (some ⟨D, 0, none⟩) 32 32) (by omega)
          have hI2 := (((F7.out.wide.else_ (b := w.heap.size) (i := 0) (.pointer (some ⟨sb, 0, none⟩)) (by omega)).else_ (b := w.heap.size) (i := 1) (.pointer (some ⟨fb, 0, none⟩)) (by omega)).else_ (b := w.heap.size) (i := 2) (.slice (some ⟨L, 0, none⟩) 288 288) (by omega)).else_ (b := w.heap.size) (i := 3) (.slice (some ⟨D, 0, none⟩) 32 32) (by omega)
          have hK8 := (((K7.out.setCell (p := ⟨w.heap.size, 0, none⟩) (Nat.le_refl _) (.pointer (some ⟨sb, 0, none⟩))).setCell (p := ⟨w.heap.size, 1, none⟩) (Nat.le_refl _) (.pointer (some ⟨fb, 0, none⟩))).setCell (p := ⟨w.heap.size, 2, none⟩) (Nat.le_refl _) (.slice (some ⟨L, 0, none⟩) 288 288)).setCell (p := ⟨w.heap.size, 3, none⟩) (Nat.le_refl _) (.slice (some ⟨D, 0, none⟩) 32 32)
          generalize (((W7.setCell ⟨w.heap.size, 0, none⟩ (.pointer (some ⟨sb, 0, none⟩))).setCell ⟨w.heap.size, 1, none⟩ (.pointer (some ⟨fb, 0, none⟩))).setCell ⟨w.heap.size, 2, none⟩ (.slice (some ⟨L, 0, none⟩) 288 288)).setCell ⟨w.heap.size, 3, none⟩ (.slice (some ⟨D, 0, none⟩) 32 32) = W8 at hY hS1 hS2 hI1 hI2 hK8 ⊢
          have y0 : W8.cell? ⟨w.heap.size, 0, none⟩ = some (.pointer (some ⟨sb, 0, none⟩)) := by rw [Lib.cell_of_heap hY]; rfl
          have y1 : W8.cell? ⟨w.heap.size, 1, none⟩ = some (.pointer (some ⟨fb, 0, none⟩)) := by rw [Lib.cell_of_heap hY]; rfl
          have y2 : W8.cell? ⟨w.heap.size, 2, none⟩ = some (.slice (some ⟨L, 0, none⟩) 288 288) := by rw [Lib.cell_of_heap hY]; rfl
          have y3 : W8.cell? ⟨w.heap.size, 3, none⟩ = some (.slice (some ⟨D, 0, none⟩) 32 32) := by rw [Lib.cell_of_heap hY]; rfl
          refine bodyPost_ret (v := .agg #[.pointer (some ⟨sb, 0, none⟩), .pointer (some ⟨fb, 0, none⟩), .slice (some ⟨L, 0, none⟩) 288 288, .slice (some ⟨D, 0, none⟩) 32 32]) (by simp [results, Try.results27, go_sem, y0, y1, y2, y3]) rfl ?_
          exact ⟨sb, fb, L, D, rfl, hS1.lower (by have := K1.out.size; omega), hS2.lower (by have := K1.out.size; omega), hI1, hI2, by omega, by omega, hK8⟩
end Go.Proofs.Ytjbbhfloomejoaa
