/- Joined texts: Form, OrdD, ChkJ, EqualL. -/
import Derived.Test.YtibogpidnnodnaaGreatDoorPk1
import Derived.Test.YtibogpidnnodnaaGreatDoorPk6
import Derived.Deep.DeepCutAuto
import Derived.Great.BuildSlice
import Derived.ChangeKeysEq
/- ops.forms, ops.Form. -/
namespace Go.Proofs.YtibogpidnnodnaaGreatDoor
open Go.RowKit Go.Deep

theorem below_row {B : Nat} {a x : World} (h : Below B a x) {g : Nat} (hg : B ≤ g) (cs : Array Value) : Below B a (x.setRow g cs) :=
  ⟨h.os, h.tape, h.output, by rw [setRow_size]; exact h.size, fun k hk => (setRow_other _ _ _ _ (by omega)).trans (h.block k hk)⟩
def Fo.rows : List (Nat × Nat × Nat) := [(16, 16, 98), (17, 17, 115), (18, 19, 99), (20, 20, 100), (21, 25, 118), (54, 58, 118), (132, 132, 105), (153, 168, 106), (169, 169, 118), (170, 170, 116), (171, 171, 108), (178, 184, 112), (185, 185, 102), (186, 186, 0), (187, 187, 112), (188, 188, 97), (189, 189, 112), (192, 193, 112), (196, 196, 0), (197, 197, 109), (198, 199, 106), (200, 201, 119)]
def Fo.set (f : Nat → Nat) (r : Nat × Nat × Nat) : Nat → Nat := fun k => if r.1 ≤ k ∧ k ≤ r.2.1 then r.2.2 else f k
def Fo.aft (i : Nat) : Nat → Nat := (Fo.rows.take i).foldl Fo.set fun _ => 45
/-- An opcode's form. -/
def Fo.form (op : Nat) : Nat := Fo.aft 22 op
def Fc (f : Nat → Nat) : List Value := (List.range 202).map fun k => .int .u8 (f k : Nat)
theorem Fc_len (f : Nat → Nat) : (Fc f).length = 202 := by simp [Fc]
theorem Fc_get (f : Nat → Nat) {k : Nat} (h : k < 202) : (Fc f)[k]? = some (.int .u8 (f k : Nat)) := by
  unfold Fc
  rw [List.getElem?_map, List.getElem?_range h]
  rfl
theorem Fc_ext {f g : Nat → Nat} (h : ∀ k, k < 202 → f k = g k) : Fc f = Fc g := by
  unfold Fc
  exact List.map_congr_left fun k hk => by rw [h k (List.mem_range.1 hk)]
theorem Fc_set (f : Nat → Nat) {i : Nat} (c : Nat) {g : Nat → Nat} (h : ∀ k, k < 202 → g k = if k = i then c else f k) : (Fc f).toArray.setIfInBounds i (.int .u8 (c : Nat)) = (Fc g).toArray := by
  rw [List.setIfInBounds_toArray]
  congr 1
  refine List.ext_getElem? fun k => ?_
  rw [List.getElem?_set]
  by_cases hk : k < 202
  · rw [Fc_get g hk, h k hk, Fc_len]
    by_cases hi : i = k
    · subst hi; simp [hk]
    · rw [if_neg hi, Fc_get f hk, if_neg (fun e => hi e.symm)]
  · rw [List.getElem?_eq_none (by rw [Fc_len]; omega), List.getElem?_eq_none (by rw [Fc_len]; omega), Fc_len]
    by_cases hi : i = k
    · subst hi; simp [hk]
    · simp [hi]
theorem aft_succ {i : Nat} {r : Nat × Nat × Nat} (h : Fo.rows[i]? = some r) : Fo.aft (i + 1) = Fo.set (Fo.aft i) r := by
  unfold Fo.aft
  rw [List.take_add_one, h]
  simp [List.foldl_append]
theorem rows_ok : ∀ r ∈ Fo.rows, r.1 ≤ r.2.1 ∧ r.2.1 < 202 ∧ r.2.2 < 256 := by decide
theorem rows_len : Fo.rows.length = 22 := rfl
theorem row_at {i : Nat} (h : i < 22) : ∃ a b c, Fo.rows[i]? = some (a, b, c) ∧ a ≤ b ∧ b < 202 ∧ c < 256 ∧ Fo.aft (i + 1) = Fo.set (Fo.aft i) (a, b, c) := by
  have h2 : i < Fo.rows.length := by rw [rows_len]; exact h
  have h3 := List.getElem?_eq_getElem h2
  obtain ⟨r, hr⟩ : ∃ r, r = Fo.rows[i] := ⟨_, rfl⟩
  rw [← hr] at h3
  have h4 := rows_ok r (List.mem_of_getElem? h3)
  exact ⟨r.1, r.2.1, r.2.2, h3, h4.1, h4.2.1, h4.2.2, aft_succ h3⟩
/-- The cells of the rows. -/
def Fo.cells : List Value := Fo.rows.flatMap fun r => [.int .i64 (r.1 : Nat), .int .i64 (r.2.1 : Nat), .int .u8 (r.2.2 : Nat)]
def Fo.vals : List Value := Fo.rows.map fun r => .agg #[.int .i64 (r.1 : Nat), .int .i64 (r.2.1 : Nat), .int .u8 (r.2.2 : Nat)]
theorem infoRow0 : (Tryz.prog.info? 133).map (fun i => (i.zero.isSome, i.size)) = some (true, 3) := by kernel_rfl
theorem infoRow : ∃ i0, Tryz.prog.info? 133 = some i0 ∧ ∃ z, i0.zero = some z ∧ i0.size = 3 := by
  have h := infoRow0
  cases hi : Tryz.prog.info? 133 with
  | none => rw [hi] at h; cases h
  | some i0 =>
    rw [hi] at h
    simp only [Option.map_some, Option.some.injEq, Prod.mk.injEq] at h
    obtain ⟨h1, h2⟩ := h
    obtain ⟨z, hz⟩ := Option.isSome_iff_exists.1 h1
    exact ⟨i0, rfl, z, hz, h2⟩
theorem forms_fill (ie : TypeInfo) (z : Value) (hs : ie.size = 3) (l : List (Nat × Value)) (hl : l = (Fo.vals.zipIdx 0).map fun x => (x.2, x.1)) :
    Instr.fill (fun i => some (i * ie.size, ie.size)) ((Array.range (22 * ie.size)).map (z.cells[· % z.cells.size]!)) l = some Fo.cells.toArray := by
  rw [hs, hl]
  have h := Go.Great.fill_whole (s := 3) (by decide) Fo.vals ((Array.range (22 * 3)).map (z.cells[· % z.cells.size]!)) (fun v hv => by obtain ⟨r, _, rfl⟩ := List.mem_map.1 hv; rfl) (by rw [Array.size_map, Array.size_range]; rfl)
  rw [h]
  rfl
theorem wpList_val {P : Program} {ops : Array Oper} {rest : List Oper} {o : Oper} {a : Act} {w : World} {Q : Exit → Act → World → Prop} (hgd : o.guard = none) (v : Value) (w' : World) (hrun : (execOp a.eval o).run P w = .ok (.value v) w')
    (h : wpList P ops Q rest (a.put o.dst v) w') : wpList P ops Q (o :: rest) a w :=
  wpList_plain hgd fun _ hK => by
    unfold Oper.wp
    rw [hrun]
    exact hK _ _ h
/-- The array as a function. -/
def FB (w : World) (G : Nat) (f : Nat → Nat) : Prop := w.heap[G]? = some (.cells (Fc f).toArray 97 (0, 0))
theorem set_at' {X : World} {B k : Nat} {cs : Array Value} {t : TypeId} (h : X.heap[B]? = some (.cells cs t (0, 0))) (v : Value) : (X.setCell ⟨B, k, none⟩ v).heap[B]? = some (.cells (cs.setIfInBounds k v) t (0, 0)) := by
  simp only [World.setCell, Array.getElem?_modify, if_true, h, Option.map_some]
  rfl
theorem set_else' {X : World} (p : Addr) (v : Value) {j : Nat} (h : p.block ≠ j) : (X.setCell p v).heap[j]? = X.heap[j]? := by
  simp only [World.setCell, Array.getElem?_modify, if_neg h]
theorem FB.set {w : World} {G i c : Nat} {f g : Nat → Nat} (h : FB w G f) (hg : ∀ k, k < 202 → g k = if k = i then c else f k) : FB (w.setCell ⟨G, i, none⟩ (.int .u8 (c : Nat))) G g := by
  have := set_at' (k := i) h (.int .u8 (c : Nat))
  rw [Fc_set f c hg] at this
  exact this
theorem zeros202 : Tryz.zeroCells97 = (Fc fun _ => 0).toArray := by kernel_rfl
theorem Fo.cell {w : World} {B i : Nat} {r : Nat × Nat × Nat} (h : w.heap[B]? = some (.cells Fo.cells.toArray 133 (0, 0))) (hr : Fo.rows[i]? = some r) (k : Nat) (u : Value) (hu : ([.int .i64 (r.1 : Nat), .int .i64 (r.2.1 : Nat), .int .u8 (r.2.2 : Nat)] : List Value)[k]? = some u) : w.cell? ⟨B, i * 3 + k, none⟩ = some u := by
  rw [Lib.cell_of_heap h, ← Array.getElem?_toList]
  have e : Fo.cells = (Fo.rows.map fun r => ([.int .i64 (r.1 : Nat), .int .i64 (r.2.1 : Nat), .int .u8 (r.2.2 : Nat)] : List Value)).flatten := rfl
  rw [e]
  exact (flat_get (size := 3) (Fo.rows.map fun r => ([.int .i64 (r.1 : Nat), .int .i64 (r.2.1 : Nat), .int .u8 (r.2.2 : Nat)] : List Value)) (fun l hl => by obtain ⟨r, _, rfl⟩ := List.mem_map.1 hl; rfl)).2 i _ (by rw [List.getElem?_map, hr]; rfl) k u hu
theorem row_cells {w : World} {B i a b c : Nat} (h : w.heap[B]? = some (.cells Fo.cells.toArray 133 (0, 0))) (hr : Fo.rows[i]? = some (a, b, c)) : w.cell? ⟨B, i * 3, none⟩ = some (.int .i64 (a : Nat)) ∧ w.cell? ⟨B, i * 3 + 1, none⟩ = some (.int .i64 (b : Nat)) ∧ w.cell? ⟨B, i * 3 + 2, none⟩ = some (.int .u8 (c : Nat)) :=
  ⟨Fo.cell h hr 0 _ rfl, Fo.cell h hr 1 _ rfl, Fo.cell h hr 2 _ rfl⟩
set_option maxHeartbeats 8000000 in
set_option maxRecDepth 100000 in
theorem forms_any (w : World) : Calls Tryz.prog 69 #[] w fun e w' => e = .returned (.agg (Fc Fo.form).toArray) ∧ Below w.heap.size w w' := by
  have k1 := (Below.refl w.heap.size w).alloc (Nat.le_refl _) (.cells Tryz.zeroCells97 97)
  have hs1 : (w.alloc (.cells Tryz.zeroCells97 97)).heap.size = w.heap.size + 1 := by show (w.heap.push _).size = _; simp
  have hG := heap_alloc_new (w.alloc (.cells Tryz.zeroCells97 97)) (.cells Tryz.zeroCells97 97)
  have k2 := (Below.refl (w.alloc (.cells Tryz.zeroCells97 97)).heap.size (w.alloc (.cells Tryz.zeroCells97 97))).alloc (Nat.le_refl _) (.cells Tryz.zeroCells97 97)
  have hR := (k2.block _ (by rw [hs1]; omega)).trans (heap_alloc_new w (.cells Tryz.zeroCells97 97))
  have K0 := Lib.hid (k1.trans (k2.mono k1.size))
  rw [hs1] at hG
  rw [zeros202] at hR hG
  have HR := Lib.hid hR
  have HG := Lib.hid (show FB _ (w.heap.size + 1) (fun _ => 0) from hG)
  rw [zeros202] at K0
  clear k1 hs1 hG k2 hR
  go_enter Tryz.func69, Tryz.ntmps69
  go_upto_region 2 with fail
  rw [zeros202]
  generalize (w.alloc (.cells (Fc fun _ => 0).toArray 97)).alloc (.cells (Fc fun _ => 0).toArray 97) = W0 at HR HG K0 ⊢
  go_upto_region 3 with fail
  go_loopw [6] (fun s6 wr => ∃ i : Nat, i ≤ 202 ∧ s6 = .int .i64 i ∧ FB wr (w.heap.size + 1) (fun k => if k < i then 45 else 0) ∧ FB wr w.heap.size (fun _ => 0) ∧ Below w.heap.size w wr) (fun s6 _ => 202 - (intOf s6).toNat)
  case atStart => exact ⟨0, Nat.zero_le _, rfl, HG.out, HR.out, K0.out⟩
  case round =>
    obtain ⟨i, hil, rfl, hg, hr, hK⟩ := hrel
    have HG1 := Lib.hid hg
    have HR1 := Lib.hid hr
    have K := Lib.hid hK
    clear HG HR K0
    by_cases h1 : i < 202
    · as_aux_lemma =>
      have c1 : wr.cell? ⟨w.heap.size + 1, i, none⟩ = some (.int .u8 (0 : Nat)) := by
        rw [Lib.cell_of_heap hg, List.getElem?_toArray, Fc_get _ h1, if_neg (Nat.lt_irrefl i)]
      have c2 := (blk_facts hg).2 i
      have z1 := (Array.getElem?_eq_some_iff.1 hg).1
      have i1 : ¬ ((i : Int) < 0) := by omega
      have i2 : (i : Int) < 202 := by omega
      clear hg hr hK
      go_wp2_with fail
      refine ⟨⟨i + 1, h1, rfl, HG1.out.set (c := 45) (fun k hk => ?_), ?_, K.out.setCell (show w.heap.size ≤ w.heap.size + 1 by omega) _⟩, next_less h1⟩
      · by_cases e : k = i
        · subst e; simp
        · rw [if_neg e]
          by_cases e2 : k < i
          · rw [if_pos e2, if_pos (by omega)]
          · rw [if_neg e2, if_neg (by omega)]
      · exact (set_else' _ _ (by show w.heap.size + 1 ≠ w.heap.size; omega)).trans HR1.out
    · as_aux_lemma =>
      have hie : i = 202 := by omega
      have HG2 := Lib.hid (show FB wr (w.heap.size + 1) (Fo.aft 0) by
        have e : Fc (fun k => if k < i then 45 else 0) = Fc (Fo.aft 0) := Fc_ext fun k hk => by rw [if_pos (by omega)]; rfl
        unfold FB at hg ⊢
        rw [← e]
        exact hg)
      clear hg hr hK HG1
      subst hie
      go_upto_region 7 with fail
      go_cut [34, 35, 36] (fun s34 s35 s36 wx => s34 = .slice (some ⟨wr.heap.size, 0, none⟩) 22 22 ∧ s35 = .int .i64 22 ∧ s36 = .int .i64 0 ∧ wx = wr.alloc (.cells Fo.cells.toArray 133))
      case first =>
        as_aux_lemma =>
        refine wp_region_lit ?_
        refine wpList_val rfl (.agg #[.int .i64 16, .int .i64 16, .int .u8 98]) wr (by kernel_rfl) ?_
        simp only [Act.put, List.setIfInBounds_toArray, List.set_cons_zero, List.set_cons_succ]
        refine wpList_val rfl (.agg #[.int .i64 17, .int .i64 17, .int .u8 115]) wr (by kernel_rfl) ?_
        simp only [Act.put, List.setIfInBounds_toArray, List.set_cons_zero, List.set_cons_succ]
        refine wpList_val rfl (.agg #[.int .i64 18, .int .i64 19, .int .u8 99]) wr (by kernel_rfl) ?_
        simp only [Act.put, List.setIfInBounds_toArray, List.set_cons_zero, List.set_cons_succ]
        refine wpList_val rfl (.agg #[.int .i64 20, .int .i64 20, .int .u8 100]) wr (by kernel_rfl) ?_
        simp only [Act.put, List.setIfInBounds_toArray, List.set_cons_zero, List.set_cons_succ]
        refine wpList_val rfl (.agg #[.int .i64 21, .int .i64 25, .int .u8 118]) wr (by kernel_rfl) ?_
        simp only [Act.put, List.setIfInBounds_toArray, List.set_cons_zero, List.set_cons_succ]
        refine wpList_val rfl (.agg #[.int .i64 54, .int .i64 58, .int .u8 118]) wr (by kernel_rfl) ?_
        simp only [Act.put, List.setIfInBounds_toArray, List.set_cons_zero, List.set_cons_succ]
        refine wpList_val rfl (.agg #[.int .i64 132, .int .i64 132, .int .u8 105]) wr (by kernel_rfl) ?_
        simp only [Act.put, List.setIfInBounds_toArray, List.set_cons_zero, List.set_cons_succ]
        refine wpList_val rfl (.agg #[.int .i64 153, .int .i64 168, .int .u8 106]) wr (by kernel_rfl) ?_
        simp only [Act.put, List.setIfInBounds_toArray, List.set_cons_zero, List.set_cons_succ]
        refine wpList_val rfl (.agg #[.int .i64 169, .int .i64 169, .int .u8 118]) wr (by kernel_rfl) ?_
        simp only [Act.put, List.setIfInBounds_toArray, List.set_cons_zero, List.set_cons_succ]
        refine wpList_val rfl (.agg #[.int .i64 170, .int .i64 170, .int .u8 116]) wr (by kernel_rfl) ?_
        simp only [Act.put, List.setIfInBounds_toArray, List.set_cons_zero, List.set_cons_succ]
        refine wpList_val rfl (.agg #[.int .i64 171, .int .i64 171, .int .u8 108]) wr (by kernel_rfl) ?_
        simp only [Act.put, List.setIfInBounds_toArray, List.set_cons_zero, List.set_cons_succ]
        refine wpList_val rfl (.agg #[.int .i64 178, .int .i64 184, .int .u8 112]) wr (by kernel_rfl) ?_
        simp only [Act.put, List.setIfInBounds_toArray, List.set_cons_zero, List.set_cons_succ]
        refine wpList_val rfl (.agg #[.int .i64 185, .int .i64 185, .int .u8 102]) wr (by kernel_rfl) ?_
        simp only [Act.put, List.setIfInBounds_toArray, List.set_cons_zero, List.set_cons_succ]
        refine wpList_val rfl (.agg #[.int .i64 186, .int .i64 186, .int .u8 0]) wr (by kernel_rfl) ?_
        simp only [Act.put, List.setIfInBounds_toArray, List.set_cons_zero, List.set_cons_succ]
        refine wpList_val rfl (.agg #[.int .i64 187, .int .i64 187, .int .u8 112]) wr (by kernel_rfl) ?_
        simp only [Act.put, List.setIfInBounds_toArray, List.set_cons_zero, List.set_cons_succ]
        refine wpList_val rfl (.agg #[.int .i64 188, .int .i64 188, .int .u8 97]) wr (by kernel_rfl) ?_
        simp only [Act.put, List.setIfInBounds_toArray, List.set_cons_zero, List.set_cons_succ]
        refine wpList_val rfl (.agg #[.int .i64 189, .int .i64 189, .int .u8 112]) wr (by kernel_rfl) ?_
        simp only [Act.put, List.setIfInBounds_toArray, List.set_cons_zero, List.set_cons_succ]
        refine wpList_val rfl (.agg #[.int .i64 192, .int .i64 193, .int .u8 112]) wr (by kernel_rfl) ?_
        simp only [Act.put, List.setIfInBounds_toArray, List.set_cons_zero, List.set_cons_succ]
        refine wpList_val rfl (.agg #[.int .i64 196, .int .i64 196, .int .u8 0]) wr (by kernel_rfl) ?_
        simp only [Act.put, List.setIfInBounds_toArray, List.set_cons_zero, List.set_cons_succ]
        refine wpList_val rfl (.agg #[.int .i64 197, .int .i64 197, .int .u8 109]) wr (by kernel_rfl) ?_
        simp only [Act.put, List.setIfInBounds_toArray, List.set_cons_zero, List.set_cons_succ]
        refine wpList_val rfl (.agg #[.int .i64 198, .int .i64 199, .int .u8 106]) wr (by kernel_rfl) ?_
        simp only [Act.put, List.setIfInBounds_toArray, List.set_cons_zero, List.set_cons_succ]
        refine wpList_val rfl (.agg #[.int .i64 200, .int .i64 201, .int .u8 119]) wr (by kernel_rfl) ?_
        simp only [Act.put, List.setIfInBounds_toArray, List.set_cons_zero, List.set_cons_succ]
        obtain ⟨ie, hie, z, hzz, hs3⟩ := infoRow
        refine wpList_buildSlice rfl 134 133 22 _ rfl Fo.cells.toArray ie z Tryz.underlying134 hie hzz (by rw [hs3]; decide) (by rw [hs3]; decide) (forms_fill ie z hs3 _ (by rw [Array.toList_map]; kernel_rfl)) ?_
        simp only [Act.put, List.setIfInBounds_toArray, List.set_cons_zero, List.set_cons_succ]
        refine wpList_val rfl (.int .i64 22) (wr.alloc (.cells Fo.cells.toArray 133)) (by kernel_rfl) ?_
        simp only [Act.put, List.setIfInBounds_toArray, List.set_cons_zero, List.set_cons_succ]
        refine wpList_val rfl (.int .i64 0) (wr.alloc (.cells Fo.cells.toArray 133)) (by kernel_rfl) ?_
        simp only [Act.put, List.setIfInBounds_toArray, List.set_cons_zero, List.set_cons_succ]
        refine wpList_nil ?_
        rename_i J K' hJ hK'
        refine hK' _ _ (Met.intro (hJ _ _ ?_))
        repeat apply Exists.intro
        refine ⟨?_, rfl⟩
        exact ⟨rfl, rfl, rfl, rfl⟩
      case rest =>
      obtain ⟨rfl, rfl, rfl, rfl⟩ := hcut
      have k7 := (Below.refl wr.heap.size wr).alloc (Nat.le_refl _) (.cells Fo.cells.toArray 133)
      have zG := (Array.getElem?_eq_some_iff.1 HG2.out).1
      have B7 := Lib.hid (heap_alloc_new wr (.cells Fo.cells.toArray 133))
      have HG3 := Lib.hid (show FB (wr.alloc (.cells Fo.cells.toArray 133)) (w.heap.size + 1) (Fo.aft 0) from (k7.block _ zG).trans HG2.out)
      have HR3 := Lib.hid (show FB (wr.alloc (.cells Fo.cells.toArray 133)) w.heap.size (fun _ => 0) from (k7.block _ (by omega)).trans HR1.out)
      have K7 := Lib.hid (K.out.trans (k7.mono K.out.size))
      have hBG : w.heap.size + 1 < wr.heap.size := zG
      clear k7 zG HG2 HR1 K
      obtain ⟨B, hB⟩ : ∃ B, B = wr.heap.size := ⟨_, rfl⟩
      rw [← hB] at B7 hBG ⊢
      generalize wr.alloc (.cells Fo.cells.toArray 133) = W7 at B7 HG3 HR3 K7 ⊢
      clear hB
      go_upto_region 8 with fail
      go_loopw [36] (fun s36 wr => ∃ i : Nat, i ≤ 22 ∧ s36 = .int .i64 i ∧ FB wr (w.heap.size + 1) (Fo.aft i) ∧ FB wr w.heap.size (fun _ => 0) ∧ wr.heap[B]? = some (.cells Fo.cells.toArray 133 (0, 0)) ∧ Below w.heap.size w wr) (fun s36 _ => 22 - (intOf s36).toNat)
      case atStart => exact ⟨0, Nat.zero_le _, rfl, HG3.out, HR3.out, B7.out, K7.out⟩
      case round =>
        obtain ⟨i, hil, rfl, hg, hr, hb, hK⟩ := hrel
        have HG1 := Lib.hid hg
        have HR1 := Lib.hid hr
        have HB1 := Lib.hid hb
        have K := Lib.hid hK
        clear HG3 HR3 B7 K7
        by_cases h1 : i < 22
        · as_aux_lemma =>
          obtain ⟨a, b, c, hrow, hab, hb2, hc2, has⟩ := row_at h1
          have AS := Lib.hid has
          obtain ⟨c0, c1, c2⟩ := row_cells hb hrow
          clear has
          have z1 := (Array.getElem?_eq_some_iff.1 hb).1
          have zG := (Array.getElem?_eq_some_iff.1 hg).1
          have zR := (Array.getElem?_eq_some_iff.1 hr).1
          have i1 : ¬ ((i : Int) < 0) := by omega
          have i2 : (i : Int) < 22 := by omega
          have k9 := (Below.refl wr.heap.size wr).alloc (Nat.le_refl _) (.cells #[.int .i64 (a : Nat), .int .i64 (b : Nat), .int .u8 (c : Nat)] 133)
          have X9 := Lib.hid (heap_alloc_new wr (.cells #[.int .i64 (a : Nat), .int .i64 (b : Nat), .int .u8 (c : Nat)] 133))
          have HG9 := Lib.hid (show FB (wr.alloc (.cells #[.int .i64 (a : Nat), .int .i64 (b : Nat), .int .u8 (c : Nat)] 133)) (w.heap.size + 1) (Fo.aft i) from (k9.block _ zG).trans hg)
          have HR9 := Lib.hid (show FB (wr.alloc (.cells #[.int .i64 (a : Nat), .int .i64 (b : Nat), .int .u8 (c : Nat)] 133)) w.heap.size (fun _ => 0) from (k9.block _ zR).trans hr)
          have HB9 := Lib.hid ((k9.block _ z1).trans hb)
          have K9 := Lib.hid (hK.trans (k9.mono hK.size))
          have zX := Lib.hid zG
          clear hg hr hb hK hrow HG1 HR1 HB1 K k9 zG zR
          go_upto_region 10 with fail
          obtain ⟨X, hX⟩ : ∃ X, X = wr.heap.size := ⟨_, rfl⟩
          rw [← hX] at X9 zX ⊢
          generalize wr.alloc (.cells #[.int .i64 (a : Nat), .int .i64 (b : Nat), .int .u8 (c : Nat)] 133) = W9 at X9 HG9 HR9 HB9 K9 ⊢
          clear hX c0 c1 c2 z1 i1 i2
          have f0 : W9.cell? ⟨X, 0, none⟩ = some (.int .i64 (a : Nat)) := by rw [Lib.cell_of_heap X9.out]; rfl
          have fz := (Array.getElem?_eq_some_iff.1 X9.out).1
          go_upto_region 11 with fail
          clear f0 fz
          go_loopw [5] (fun s5 wr => ∃ j : Nat, a ≤ j ∧ j ≤ b + 1 ∧ s5 = .int .i64 j ∧ FB wr (w.heap.size + 1) (fun k => if a ≤ k ∧ k < j then c else Fo.aft i k) ∧ FB wr w.heap.size (fun _ => 0) ∧ wr.heap[B]? = some (.cells Fo.cells.toArray 133 (0, 0)) ∧ wr.heap[X]? = some (.cells #[.int .i64 (a : Nat), .int .i64 (b : Nat), .int .u8 (c : Nat)] 133 (0, 0)) ∧ Below w.heap.size w wr) (fun s5 _ => b + 1 - (intOf s5).toNat)
          case atStart =>
            refine ⟨a, Nat.le_refl _, by omega, rfl, ?_, HR9.out, HB9.out, X9.out, K9.out⟩
            have e : Fc (fun k => if a ≤ k ∧ k < a then c else Fo.aft i k) = Fc (Fo.aft i) := Fc_ext fun k hk => by rw [if_neg (by omega)]
            unfold FB
            rw [e]
            exact HG9.out
          case round =>
            obtain ⟨j, haj, hjb, rfl, hg, hr, hb, hx, hK⟩ := hrel
            have HG1 := Lib.hid hg
            have HR1 := Lib.hid hr
            have HB1 := Lib.hid hb
            have HX1 := Lib.hid hx
            have K := Lib.hid hK
            have f1 : wr.cell? ⟨X, 1, none⟩ = some (.int .i64 (b : Nat)) := by rw [Lib.cell_of_heap hx]; rfl
            have f2 : wr.cell? ⟨X, 2, none⟩ = some (.int .u8 (c : Nat)) := by rw [Lib.cell_of_heap hx]; rfl
            have fz := (Array.getElem?_eq_some_iff.1 hx).1
            clear HG9 HR9 HB9 X9 K9
            by_cases h2 : j ≤ b
            · as_aux_lemma =>
              have c1 : wr.cell? ⟨w.heap.size + 1, j, none⟩ = some (.int .u8 ((if a ≤ j ∧ j < j then c else Fo.aft i j : Nat) : Int)) := by
                rw [Lib.cell_of_heap hg, List.getElem?_toArray, Fc_get _ (by omega)]
              have c2 := (blk_facts hg).2 j
              have z1 := (Array.getElem?_eq_some_iff.1 hg).1
              have i1 : ¬ ((j : Int) < 0) := by omega
              have i2 : (j : Int) < 202 := by omega
              have i3 : (j : Int) ≤ (b : Int) := by omega
              have i4 : decide ((j : Int) ≤ (b : Int)) = true := decide_eq_true i3
              have n1 : w.heap.size + 1 ≠ B := by omega
              have n2 : w.heap.size + 1 ≠ X := by have := zX.out; omega
              generalize (if a ≤ j ∧ j < j then c else Fo.aft i j : Nat) = u0 at c1
              clear hg hr hb hx hK
              go_wp2_with fail
              refine ⟨⟨j + 1, by omega, by omega, rfl, HG1.out.set (c := c) (fun k hk => ?_), (set_else' _ _ (by show w.heap.size + 1 ≠ w.heap.size; omega)).trans HR1.out, (set_else' _ _ n1).trans HB1.out, (set_else' _ _ n2).trans HX1.out, K.out.setCell (show w.heap.size ≤ w.heap.size + 1 by omega) _⟩, ?_⟩
              · by_cases e : k = j
                · subst e; rw [if_pos (by omega), if_pos rfl]
                · rw [if_neg e]
                  by_cases e2 : a ≤ k ∧ k < j
                  · rw [if_pos e2, if_pos (by omega)]
                  · rw [if_neg e2, if_neg (by omega)]
              · exact next_less (m := b + 1) (by omega)
            · as_aux_lemma =>
              have hje : j = b + 1 := by omega
              subst hje
              have i3 : ¬ ((b + 1 : Nat) : Int) ≤ (b : Int) := by omega
              have i4 : decide (((b + 1 : Nat) : Int) ≤ (b : Int)) = false := decide_eq_false i3
              have HG2 := Lib.hid (show FB wr (w.heap.size + 1) (Fo.aft (i + 1)) by
                have e : Fc (fun k => if a ≤ k ∧ k < b + 1 then c else Fo.aft i k) = Fc (Fo.aft (i + 1)) := Fc_ext fun k hk => by
                  rw [AS.out]
                  unfold Fo.set
                  simp only
                  by_cases e2 : a ≤ k ∧ k ≤ b
                  · rw [if_pos e2, if_pos (by omega)]
                  · rw [if_neg e2, if_neg (by omega)]
                unfold FB at hg ⊢
                rw [← e]
                exact hg)
              clear hg hr hb hx hK
              go_wp2_with fail
              exact ⟨⟨i + 1, h1, rfl, HG2.out, HR1.out, HB1.out, K.out⟩, next_less h1⟩
        · as_aux_lemma =>
          have hie : i = 22 := by omega
          subst hie
          have HL := Lib.hid (show CellsAt wr (w.heap.size + 1) 0 (Fc Fo.form) by
            have h := cellsAt_block hg 0 202
            rw [List.drop_zero, List.take_of_length_le (by rw [Fc_len]; exact Nat.le_refl _)] at h
            exact h)
          have hcl : (Tryz.prog.info? 97).map (·.size) = some (Fc Fo.form).length := by rw [Fc_len]; kernel_rfl
          clear hg hr hb hK
          go_upto_region 15 with fail
          go_wp2_with (first | (refine wpList_load_cells rfl 97 _ rfl (w.heap.size + 1) 0 rfl _ HL.out _ Tryz.underlying97 rfl hcl ?_) | (refine wpList_store_row rfl 97 _ _ rfl w.heap.size (Fc Fo.form).toArray rfl rfl 97 _ HR1.out (by rw [List.size_toArray]; exact hcl) (by simp [Fc_len]) (by simp [Fc, Value.oneCell']) ?_))
          dsimp only [Act.put]
          simp only [List.setIfInBounds_toArray, List.set_cons_zero, List.set_cons_succ]
          have hcl2 : (Tryz.prog.info? 97).map (·.size) = some (Fc Fo.form).toArray.size := by rw [List.size_toArray]; exact hcl
          refine bodyPost_ret (results_cell_row rfl _ _ w.heap.size 97 (Fc Fo.form).toArray (0, 0) _ rfl (setRow_heap _ _ _ _ _ _ HR1.out) Tryz.underlying97 rfl hcl2) rfl ?_
          exact ⟨rfl, below_row K.out (Nat.le_refl _) _⟩
theorem run_index_arr (cs : Array Value) (op : Nat) (v : Value) (h : cs[op]? = some v) (hop : op < 202) (x : World) : (Instr.index 97 (.agg cs) (.int .i64 (op : Nat))).run Tryz.prog x = .ok v x := by
  have hn : (0 : Int) ≤ (op : Int) ∧ (op : Int) < 202 := by omega
  have hn2 : (op : Int) < 202 := hn.2
  simp [Instr.index, run_underlying Tryz.underlying97, asIntOf, hop, h, Tryz.sizeOf5, go_sem]
set_option maxRecDepth 100000 in
theorem form_any (op : Nat) (hop : op < 202) (w : World) : Calls Tryz.prog 31 #[.int .i64 (op : Nat)] w fun e w' => e = .returned (.int .u8 (Fo.form op : Nat)) ∧ Below w.heap.size w w' := by
  have H1 := Lib.hid (forms_any w)
  have h0 : decide ((op : Int) < 0) = false := decide_eq_false (by omega)
  have h1 : decide ((201 : Int) < (op : Int)) = false := decide_eq_false (by omega)
  have i1 : ¬ ((op : Int) < 0) := by omega
  have i2 : (op : Int) < 202 := by omega
  have HV := Fc_get Fo.form hop
  have HI := fun x => run_index_arr (Fc Fo.form).toArray op _ (by rw [List.getElem?_toArray]; exact HV) hop x
  generalize Fc Fo.form = F at H1 HV HI
  generalize Fo.form op = v at HV HI ⊢
  go_enter Tryz.func31, Tryz.ntmps31
  go_wp2_with fail
  refine H1.out.mono ?_
  rintro e w1 ⟨rfl, hb⟩
  have K := Lib.hid hb
  clear hb H1
  go_wp2_with fail
  go_ret
  exact ⟨rfl, K.out⟩
end Go.Proofs.YtibogpidnnodnaaGreatDoor

/- As XOrdD, and a told call may lay several blocks. Printed by mk_ordd.py.
As XOrder, and an operation may be an append onto a fresh row, or a call of which a fact about what it returns is all that is known: whatever it comes to. No program. -/
namespace Go.Proofs.YtibogpidnnodnaaGreatDoor.OrdD
open Go.RowKit

/-- What comes out: a block, a value, what the block holds; 'got': is there a block at all? -/
structure Out where
  B : Nat
  v : Value
  obj : Obj
  got : Bool
  more : List (Nat × Obj)
/-- More blocks behind a slot. -/
def _root_.Go.Proofs.YtibogpidnnodnaaGreatDoor.Env.more (E : Env) (d : Option Nat) (l : List (Nat × Obj)) : Env := fun s C u => E s C u ∨ (d = some s ∧ (C, u) ∈ l)

section
variable {fr : Oper → Nat} {Ψ : Oper → Out → Prop} {P : Program} {ops : Array Oper} {md : Region.Mode} {Q : Exit → Act → World → Prop} {w0 x y : World} {E F : Env}

def isApp (o : Oper) : Bool := match o.op with | .call c => (match c.callee with | .builtin .append => true | _ => false) | _ => false
/-- 1: an append; 2: a call that is told by a fact; 3: what asks nothing of the world, by its values; 0: all else. -/
def sp (fr : Oper → Nat) (o : Oper) : Nat := if isApp o then 1 else if fr o = 1 then 0 else fr o
/-- What an operation comes to: one value; a fresh block that holds this; a row of its own, new or the old one; or what a call returns. -/
inductive Kind where
  | val (v : Value)
  | blk (obj : Obj)
  | app
  | call
  | free (v : Value)
def Kind.res (o : Oper) (k : Kind) (ω : Out) : Value := match k with | .val v => v | .blk _ => blkVal o ω.B | .app => ω.v | .call => ω.v | .free v => v
def Kind.env (o : Oper) (k : Kind) (ω : Out) (E : Env) : Env := match k with | .val _ => E | .blk obj => E.upd o.dst ω.B obj | .app => E.upd o.dst ω.B ω.obj | .call => if ω.got then (E.upd o.dst ω.B ω.obj).more o.dst ω.more else E | .free _ => E
def Fits (Ψ : Oper → Out → Prop) (P : Program) (w0 : World) (F : Env) (o : Oper) (a : Act) (k : Kind) (ω : Out) : Prop := match k with
  | .val _ => True
  | .blk _ => w0.heap.size ≤ ω.B
  | .app => w0.heap.size ≤ ω.B ∧ ω.v.ownBlock = some ω.B ∧ ∃ x y, Cl w0 F x ∧ (execOp a.eval o).run P x = .ok (.value ω.v) y ∧ y.heap[ω.B]? = some ω.obj
  | .call => Ψ o ω ∧ (ω.got = true → w0.heap.size ≤ ω.B)
  | .free _ => True

def Runs (fr : Oper → Nat) (Ψ : Oper → Out → Prop) (P : Program) (ops : Array Oper) (w0 : World) (F : Env) (o : Oper) (a : Act) : Kind → Prop
  | .val v => sp fr o = 0 ∧ ((Region.wanted o (yielded ops a.tmps) = true ∧ ∀ x, Cl w0 F x → o.quietAt P a (fun y => Below x.heap.size x y) x v) ∨ (Region.wanted o (yielded ops a.tmps) = false ∧ v = undef))
  | .blk obj => sp fr o = 0 ∧ Region.wanted o (yielded ops a.tmps) = true ∧ ∀ x, Cl w0 F x → (execOp a.eval o).run P x = .ok (.value (blkVal o x.heap.size)) (x.alloc obj)
  | .app => sp fr o = 1 ∧ Region.wanted o (yielded ops a.tmps) = true ∧ ∀ x, Cl w0 F x → ∃ v y B obj, (execOp a.eval o).run P x = .ok (.value v) y ∧ Below x.heap.size x y ∧ w0.heap.size ≤ B ∧ v.ownBlock = some B ∧ y.heap[B]? = some obj
  | .call => sp fr o = 2 ∧ Region.wanted o (yielded ops a.tmps) = true ∧ ∀ x, Cl w0 F x → ∃ f args, (execOp a.eval o).run P x = .ok (.enter f args) x ∧ Calls P f args x fun e y => ∃ ω : Out, e = .returned ω.v ∧ Below x.heap.size x y ∧ (ω.got = true → w0.heap.size ≤ ω.B ∧ y.heap[ω.B]? = some ω.obj ∧ ∀ p ∈ ω.more, w0.heap.size ≤ p.1 ∧ y.heap[p.1]? = some p.2) ∧ Ψ o ω
  | .free v => sp fr o = 3 ∧ Region.wanted o (yielded ops a.tmps) = true ∧ ∀ x, (execOp a.eval o).run P x = .ok (.value v) x

theorem Runs.det {o : Oper} {a : Act} : ∀ {k1 k2 : Kind}, Runs fr Ψ P ops w0 F o a k1 → Runs fr Ψ P ops w0 F o a k2 → Cl w0 F x → k1 = k2
  | .val v, .val u, h1, h2, hx => by
    rcases h1.2 with ⟨w1, h1⟩ | ⟨w1, h1⟩ <;> rcases h2.2 with ⟨w2, h2⟩ | ⟨w2, h2⟩
    · exact congrArg _ (quietUpon_det (h1 x hx) (h2 x hx))
    · rw [w1] at w2; cases w2
    · rw [w1] at w2; cases w2
    · rw [h1, h2]
  | .val v, .blk o2, h1, h2, hx => by
    rcases h1.2 with ⟨w1, h1⟩ | ⟨w1, h1⟩
    · have := h1 x hx
      unfold Oper.quietAt at this
      rw [h2.2.2 x hx] at this
      exact absurd this.1 (alloc_ne x o2)
    · have := h2.2.1; rw [w1] at this; cases this
  | .blk o1, .val u, h1, h2, hx => by
    rcases h2.2 with ⟨w2, h2⟩ | ⟨w2, h2⟩
    · have := h2 x hx
      unfold Oper.quietAt at this
      rw [h1.2.2 x hx] at this
      exact absurd this.1 (alloc_ne x o1)
    · have := h1.2.1; rw [w2] at this; cases this
  | .blk o1, .blk o2, h1, h2, hx => by
    have := (h1.2.2 x hx).symm.trans (h2.2.2 x hx)
    simp only [Result.ok.injEq] at this
    exact congrArg _ (alloc_inj this.2)
  | .app, .app, _, _, _ => rfl
  | .app, .val _, h1, h2, _ => by have := h1.1; rw [h2.1] at this; cases this
  | .app, .blk _, h1, h2, _ => by have := h1.1; rw [h2.1] at this; cases this
  | .val _, .app, h1, h2, _ => by have := h2.1; rw [h1.1] at this; cases this
  | .blk _, .app, h1, h2, _ => by have := h2.1; rw [h1.1] at this; cases this
  | .call, .call, _, _, _ => rfl
  | .free v, .free u, h1, h2, hx => by
    have := (h1.2.2 x).symm.trans (h2.2.2 x)
    simp only [Result.ok.injEq, Next.value.injEq] at this
    exact congrArg _ this.1
  | .free _, .val _, h1, h2, _ => by have := h1.1; rw [h2.1] at this; cases this
  | .free _, .blk _, h1, h2, _ => by have := h1.1; rw [h2.1] at this; cases this
  | .free _, .app, h1, h2, _ => by have := h1.1; rw [h2.1] at this; cases this
  | .free _, .call, h1, h2, _ => by have := h1.1; rw [h2.1] at this; cases this
  | .val _, .free _, h1, h2, _ => by have := h1.1; rw [h2.1] at this; cases this
  | .blk _, .free _, h1, h2, _ => by have := h1.1; rw [h2.1] at this; cases this
  | .app, .free _, h1, h2, _ => by have := h1.1; rw [h2.1] at this; cases this
  | .call, .free _, h1, h2, _ => by have := h1.1; rw [h2.1] at this; cases this
  | .call, .val _, h1, h2, _ => by have := h1.1; rw [h2.1] at this; cases this
  | .call, .blk _, h1, h2, _ => by have := h1.1; rw [h2.1] at this; cases this
  | .call, .app, h1, h2, _ => by have := h1.1; rw [h2.1] at this; cases this
  | .val _, .call, h1, h2, _ => by have := h1.1; rw [h2.1] at this; cases this
  | .blk _, .call, h1, h2, _ => by have := h1.1; rw [h2.1] at this; cases this
  | .app, .call, h1, h2, _ => by have := h1.1; rw [h2.1] at this; cases this

theorem Runs.put {o : Oper} {a : Act} {dst : Option Tmp} {u : Value} (hs : ∀ cs b, o.op ≠ .select cs b) (h : ∀ d, dst = some d → d ∉ o.looksAt ops) (k : Kind) : Runs fr Ψ P ops w0 F o (a.put dst u) k ↔ Runs fr Ψ P ops w0 F o a k := by
  cases k <;> simp only [Runs, Oper.quietAt, execOp_put o hs a dst u h, wanted_put o a dst u h]
theorem Fits.put {o : Oper} {a : Act} {dst : Option Tmp} {u : Value} (hs : ∀ cs b, o.op ≠ .select cs b) (h : ∀ d, dst = some d → d ∉ o.looksAt ops) (k : Kind) (ω : Out) : Fits Ψ P w0 F o (a.put dst u) k ω ↔ Fits Ψ P w0 F o a k ω := by
  cases k <;> simp only [Fits, execOp_put o hs a dst u h]
theorem Env.only_upd {o1 : Option Nat} {oj : Oper} (B : Nat) (obj : Obj) (h : ∀ d, o1 = some d → d ∉ oj.looksAt ops) : (E.upd o1 B obj).only ops oj = E.only ops oj := by
  funext s C u
  apply propext
  exact ⟨fun ⟨h1, h2⟩ => ⟨h1, h2.resolve_right fun h3 => h s h3.1 (by simpa using h1)⟩, fun ⟨h1, h2⟩ => ⟨h1, .inl h2⟩⟩
theorem Env.only_more {o1 : Option Nat} {oj : Oper} (l : List (Nat × Obj)) (h : ∀ d, o1 = some d → d ∉ oj.looksAt ops) : (E.more o1 l).only ops oj = E.only ops oj := by
  funext s C u
  apply propext
  exact ⟨fun ⟨h1, h2⟩ => ⟨h1, h2.resolve_right fun h3 => h s h3.1 (by simpa using h1)⟩, fun ⟨h1, h2⟩ => ⟨h1, .inl h2⟩⟩
theorem Env.only_env {oi oj : Oper} (k : Kind) (ω : Out) (h : ∀ d, oi.dst = some d → d ∉ oj.looksAt ops) : (k.env oi ω E).only ops oj = E.only ops oj := by
  cases k with
  | val v => rfl
  | blk obj => exact Env.only_upd ω.B obj h
  | app => exact Env.only_upd ω.B ω.obj h
  | call =>
    show (if ω.got then (E.upd oi.dst ω.B ω.obj).more oi.dst ω.more else E).only ops oj = E.only ops oj
    split
    · exact (Env.only_more ω.more h).trans (Env.only_upd ω.B ω.obj h)
    · rfl
  | free v => rfl
theorem Kind.env_comm {oi oj : Oper} (ki kj : Kind) (ωi ωj : Out) : ki.env oi ωi (kj.env oj ωj E) = kj.env oj ωj (ki.env oi ωi E) := by
  cases ki <;> cases kj <;> simp only [Kind.env] <;> (repeat' split) <;> first | rfl | (funext s C u; simp only [Env.upd, Env.more]; ac_rfl)
theorem Kind.env_le (o : Oper) (k : Kind) (ω : Out) (s C : Nat) (u : Obj) (h : E s C u) : k.env o ω E s C u := by
  cases k with
  | val _ => exact h
  | blk _ => exact .inl h
  | app => exact .inl h
  | call =>
    show (if ω.got then (E.upd o.dst ω.B ω.obj).more o.dst ω.more else E) s C u
    split
    · exact .inl (.inl h)
    · exact h
  | free _ => exact h
theorem cl_app (h : Cl w0 E x) (k : Below x.heap.size x y) {B : Nat} {obj : Obj} (hB : w0.heap.size ≤ B) (hy : y.heap[B]? = some obj) (d : Option Nat) : Cl w0 (E.upd d B obj) y := by
  have hg := h.grow k
  refine ⟨hg.below, fun s C o e => ?_⟩
  rcases e with e | ⟨_, rfl, rfl⟩
  · exact hg.fact s C o e
  · exact ⟨hB, hy⟩
theorem cl_call (h : Cl w0 E x) (k : Below x.heap.size x y) {ω : Out} (hg : ω.got = true → w0.heap.size ≤ ω.B ∧ y.heap[ω.B]? = some ω.obj ∧ ∀ p ∈ ω.more, w0.heap.size ≤ p.1 ∧ y.heap[p.1]? = some p.2) (d : Option Nat) : Cl w0 (if ω.got then (E.upd d ω.B ω.obj).more d ω.more else E) y := by
  split
  · rename_i e
    have hc := cl_app h k (hg e).1 (hg e).2.1 d
    refine ⟨hc.below, fun s C o e2 => ?_⟩
    rcases e2 with e2 | ⟨_, e2⟩
    · exact hc.fact s C o e2
    · exact (hg e).2.2 _ e2
  · exact h.grow k
/-- It comes to something. -/
theorem Runs.out {o : Oper} {a : Act} {k : Kind} (h : Runs fr Ψ P ops w0 (E.only ops o) o a k) (hx : Cl w0 E x) : ∃ ω w', Fits Ψ P w0 (E.only ops o) o a k ω ∧ Cl w0 (k.env o ω E) w' := by
  cases k with
  | val v => exact ⟨⟨0, v, .map #[] 0, true, []⟩, x, trivial, hx⟩
  | blk obj => exact ⟨⟨x.heap.size, undef, obj, true, []⟩, _, hx.below.size, hx.upd o.dst obj⟩
  | app =>
    obtain ⟨v, y, B, obj, h1, h2, h3, h4, h5⟩ := h.2.2 x (hx.only o)
    exact ⟨⟨B, v, obj, true, []⟩, y, ⟨h3, h4, x, y, hx.only o, h1, h5⟩, cl_app hx h2 h3 h5 o.dst⟩
  | call =>
    obtain ⟨f, args, _, hc⟩ := h.2.2 x (hx.only o)
    obtain ⟨e, y, _, ⟨ω, _, hb, hg, hψ⟩, _⟩ := hc []
    exact ⟨ω, y, ⟨hψ, fun e => (hg e).1⟩, cl_call hx hb hg o.dst⟩
  | free v => exact ⟨⟨0, v, .map #[] 0, true, []⟩, x, trivial, hx⟩

theorem Runs.wpOp {i : Nat} {o : Oper} {a : Act} {k : Kind} (hi : ops[i]? = some o) (h : Runs fr Ψ P ops w0 (E.only ops o) o a k) (hx : Cl w0 E x) {K : Act → World → Prop}
    (hK : ∀ ω y, Fits Ψ P w0 (E.only ops o) o a k ω → Cl w0 (k.env o ω E) y → K (a.put o.dst (k.res o ω)) y) : Go.wpOp P ops Q i K a x := by
  unfold Go.wpOp
  simp only [hi]
  cases k with
  | val v =>
    have hK' := fun y hy => hK ⟨0, v, .map #[] 0, true, []⟩ y trivial hy
    rcases h.2 with ⟨hw, hv⟩ | ⟨hw, rfl⟩
    · rw [if_pos hw]
      refine .inl ?_
      have h3 := hv x (hx.only o)
      unfold Oper.quietAt at h3
      unfold Oper.wp
      generalize (execOp a.eval o).run P x = r at *
      cases r with
      | ok n w' =>
        cases n <;> simp only [Oper.quietUpon] at h3 <;> simp only [Oper.upon]
        case value u => obtain ⟨rfl, rfl⟩ := h3; exact hK' _ hx
        case skip => obtain ⟨rfl, rfl⟩ := h3; exact hK' _ hx
        case enter f args =>
          obtain ⟨rfl, hc⟩ := h3
          exact hc.mono fun e w'' ⟨he, hw''⟩ => by subst he; exact hK' _ (hx.grow hw'')
      | halt => simp only [Oper.quietUpon] at h3
    · rw [if_neg (by rw [hw]; decide)]
      exact hK' x hx
  | blk obj =>
    rw [if_pos h.2.1]
    refine .inl ?_
    unfold Oper.wp
    rw [h.2.2 x (hx.only o)]
    exact hK ⟨x.heap.size, undef, obj, true, []⟩ _ hx.below.size (hx.upd o.dst obj)
  | app =>
    rw [if_pos h.2.1]
    refine .inl ?_
    obtain ⟨v, y, B, obj, h1, h2, h3, h4, h5⟩ := h.2.2 x (hx.only o)
    unfold Oper.wp
    rw [h1]
    exact hK ⟨B, v, obj, true, []⟩ y ⟨h3, h4, x, y, hx.only o, h1, h5⟩ (cl_app hx h2 h3 h5 o.dst)
  | call =>
    rw [if_pos h.2.1]
    refine .inl ?_
    obtain ⟨f, args, h1, hc⟩ := h.2.2 x (hx.only o)
    unfold Oper.wp
    rw [h1]
    simp only [Oper.upon]
    exact hc.mono fun e w'' ⟨ω, he, hb, hg, hψ⟩ => by
      subst he
      exact hK ω w'' ⟨hψ, fun e => (hg e).1⟩ (cl_call hx hb hg o.dst)
  | free v =>
    rw [if_pos h.2.1]
    refine .inl ?_
    unfold Oper.wp
    rw [h.2.2 x]
    exact hK ⟨0, v, .map #[] 0, true, []⟩ x trivial hx

/-- What may come behind an operation of the tail: it asks nothing of the world. -/
def lateF (fr : Oper → Nat) (o : Oper) : Bool := lateB o || sp fr o == 3
theorem late_yields {o : Oper} {a : Act} {k : Kind} (h : lateF fr o = true) (hr : Runs fr Ψ P ops w0 F o a k) (hx : Cl w0 F x) :
    ∃ v, (∀ ω E, k.env o ω E = E) ∧ (∀ ω, k.res o ω = v) ∧ (∀ ω, Fits Ψ P w0 F o a k ω) ∧ Yields P ops o v a := by
  have hB : ∀ n, n ≠ 3 → sp fr o = n → lateB o = true := fun n hn hs => by
    unfold lateF at h
    rw [hs, Bool.or_eq_true] at h
    rcases h with h | h
    · exact h
    · exact absurd (by simpa using h) hn
  cases k with
  | val v =>
    have h := hB 0 (by decide) hr.1
    refine ⟨v, fun _ _ => rfl, fun _ => rfl, fun _ => trivial, ?_⟩
    rcases hr.2 with ⟨hw, hv⟩ | hr
    · refine .inl ⟨hw, ?_⟩
      have := hv x hx
      unfold Oper.quietAt at this
      rcases late_run (P := P) o h a.eval with ⟨u, hu⟩ | hu
      · rw [hu x] at this
        simp only [Oper.quietUpon] at this
        rw [← this.2]
        exact hu
      · obtain ⟨hh, e⟩ := hu x
        rw [e] at this
        simp only [Oper.quietUpon] at this
    · exact .inr hr
  | blk obj =>
    have h := hB 0 (by decide) hr.1
    have := hr.2.2 x hx
    rcases late_run (P := P) o h a.eval with ⟨u, hu⟩ | hu
    · rw [hu x] at this
      simp only [Result.ok.injEq] at this
      exact absurd this.2.symm (alloc_ne x obj)
    · obtain ⟨hh, e⟩ := hu x
      rw [e] at this
      cases this
  | app =>
    have h := hB 1 (by decide) hr.1
    exfalso
    have h1 := hr.1
    have h2 : isApp o = true := by
      apply Classical.byContradiction
      intro hn
      unfold lateB at h
      unfold sp at h1
      rw [if_neg hn] at h1
      split at h1
      · cases h1
      · rename_i h3; exact h3 h1
    unfold lateB at h
    unfold isApp at h2
    split at h
    · rename_i ho; rw [ho] at h2; cases h2
    · rename_i ho; rw [ho] at h2; cases h2
    · cases h
  | call =>
    have h := hB 2 (by decide) hr.1
    obtain ⟨f, args, h1, _⟩ := hr.2.2 x hx
    rcases late_run (P := P) o h a.eval with ⟨u, hu⟩ | hu
    · rw [hu x] at h1; simp at h1
    · obtain ⟨hh, e⟩ := hu x
      rw [e] at h1
      cases h1
  | free v => exact ⟨v, fun _ _ => rfl, fun _ => rfl, fun _ => trivial, .inl ⟨hr.2.1, hr.2.2⟩⟩

def ordLate (fr : Oper → Nat) (md : Region.Mode) (ops : Array Oper) (n : Nat) : Bool :=
  (List.range n).all fun i => (match ops[i]? with | some oi => lateF fr oi | none => false) || (List.range ops.size).all fun t => decide (t < n) || waitsT md ops 5 t i
def ordB (fr : Oper → Nat) (md : Region.Mode) (ops : Array Oper) (n : Nat) : Bool :=
  Region.noSelect ops && decide (n ≤ ops.size) && ordLate fr md ops n && ordHead md ops (ops.size - n) n 0 (Array.replicate ops.size false)
theorem ordLate_spec {md : Region.Mode} {n : Nat} (h : ordLate fr md ops n = true) {i : Nat} (hi : i < n) {oi : Oper} (hoi : ops[i]? = some oi) (t : Nat) (ot : Oper) (ht : n ≤ t) (hot : ops[t]? = some ot) :
    (∃ f, waitsT md ops f t i = true) ∨ lateF fr oi = true := by
  have h1 := List.all_eq_true.1 h i (List.mem_range.2 hi)
  simp only [hoi, Bool.or_eq_true] at h1
  rcases h1 with h1 | h1
  · exact .inr h1
  · have h2 := List.all_eq_true.1 h1 t (List.mem_range.2 (Array.getElem?_eq_some_iff.1 hot).1)
    simp only [Bool.or_eq_true, decide_eq_true_eq] at h2
    rcases h2 with h2 | h2
    · omega
    · exact .inl ⟨5, h2⟩

/-- Whatever order is picked while operations of the head (the first n) are to come; 'g': how many there are behind the head. -/
def AO (fr : Oper → Nat) (Ψ : Oper → Out → Prop) (P : Program) (md : Region.Mode) (ops : Array Oper) (Q : Exit → Act → World → Prop) (w0 : World) (n g : Nat) : Nat → Array Bool → Env → Act → Prop
  | 0, listed, E, a => ∀ w, Cl w0 E w → (∀ j ∈ Region.ready md ops listed, n ≤ j) ∧ wpAny P md ops Q g listed a w
  | f + 1, listed, E, a => ∀ w, Cl w0 E w → Region.ready md ops listed ≠ [] ∧
      (∀ j ∈ Region.ready md ops listed, j < n → ∃ o k, ops[j]? = some o ∧ Runs fr Ψ P ops w0 (E.only ops o) o a k ∧
        ∀ ω, Fits Ψ P w0 (E.only ops o) o a k ω → AO fr Ψ P md ops Q w0 n g f (listed.setIfInBounds j true) (k.env o ω E) (a.put o.dst (k.res o ω))) ∧
      ((∃ j ∈ Region.ready md ops listed, n ≤ j) → wpAny P md ops Q (f + 1 + g) listed a w)

theorem AO.any {n g : Nat} : ∀ (f : Nat) (listed : Array Bool) (E : Env) (a : Act) (w : World), AO fr Ψ P md ops Q w0 n g f listed E a → Cl w0 E w → wpAny P md ops Q (f + g) listed a w
  | 0, listed, E, a, w, h, hw => by rw [Nat.zero_add]; exact (h w hw).2
  | f + 1, listed, E, a, w, h, hw => by
    obtain ⟨hne, hA, hB⟩ := h w hw
    by_cases ht : ∃ j ∈ Region.ready md ops listed, n ≤ j
    · exact hB ht
    · have e : f + 1 + g = (f + g) + 1 := by omega
      rw [e]
      refine ⟨fun h0 => absurd h0 hne, fun j hj => ?_⟩
      have hjn : j < n := Nat.lt_of_not_le fun hh => ht ⟨j, hj, hh⟩
      obtain ⟨o, k, ho, hr, hk⟩ := hA j hj hjn
      exact hr.wpOp ho hw fun ω y hω hy => AO.any f _ _ _ y (hk ω hω) hy

/-- An operation of the head that may come up may be taken first. -/
theorem AO.first {n g i : Nat} {oi : Oper} {ki : Kind} (hi : ops[i]? = some oi) (hin : i < n) (hsel : ∀ (j : Nat) (o : Oper) cs b, ops[j]? = some o → o.op ≠ .select cs b)
    (hQ : ∀ c a v w, Q (.panic c) (a.put oi.dst v) w → Q (.panic c) a w)
    (hlate : ∀ (t : Nat) (ot : Oper), n ≤ t → ops[t]? = some ot → (∃ f, waitsT md ops f t i = true) ∨ lateF fr oi = true) (f : Nat) :
    ∀ (listed : Array Bool) (E : Env) (a : Act), Closed md ops listed →
      (∀ j oj, ops[j]? = some oj → j ≠ i → listed.getD j true = false → (∀ e ∈ oj.after, Region.binds md e = true → e.on ≠ i) → oi.apart ops oj = true) →
      i ∈ Region.ready md ops listed → Runs fr Ψ P ops w0 (E.only ops oi) oi a ki →
      (∀ ω, Fits Ψ P w0 (E.only ops oi) oi a ki ω → AO fr Ψ P md ops Q w0 n g f (listed.setIfInBounds i true) (ki.env oi ω E) (a.put oi.dst (ki.res oi ω))) → AO fr Ψ P md ops Q w0 n g (f + 1) listed E a := by
  -- at a tail's operation that comes up while this one is to come: this one asks nothing of the world
  have tail : ∀ (f : Nat) (listed : Array Bool) (E : Env) (a : Act) (w : World), Closed md ops listed → Cl w0 E w →
      (∀ j oj, ops[j]? = some oj → j ≠ i → listed.getD j true = false → (∀ e ∈ oj.after, Region.binds md e = true → e.on ≠ i) → oi.apart ops oj = true) →
      i ∈ Region.ready md ops listed → Runs fr Ψ P ops w0 (E.only ops oi) oi a ki →
      (∀ ω, Fits Ψ P w0 (E.only ops oi) oi a ki ω → AO fr Ψ P md ops Q w0 n g f (listed.setIfInBounds i true) (ki.env oi ω E) (a.put oi.dst (ki.res oi ω))) →
      (∃ j ∈ Region.ready md ops listed, n ≤ j) → wpAny P md ops Q (f + 1 + g) listed a w := by
    intro f listed E a w hcl hw hfree hr hy H ht
    obtain ⟨t, htr, htn⟩ := ht
    obtain ⟨_, ot, hot, hall⟩ := mem_ready.1 htr
    have hla : lateF fr oi = true := by
      rcases hlate t ot htn hot with ⟨f, hf⟩ | h
      · have h1 := waitsT_listed hcl f t hf fun ot' hot' => by
          rw [hot] at hot'; cases hot'; exact hall
        rw [getD_both (mem_ready.1 hr).1] at h1
        cases h1
      · exact h
    obtain ⟨v, henv, hres, hfit, hyl⟩ := late_yields hla hy (hw.only oi)
    have h0 := H ⟨0, v, .map #[] 0, true, []⟩ (hfit _)
    rw [henv, hres] at h0
    have h1 := AO.any f _ _ _ w h0 hw
    have e : f + 1 + g = (f + g) + 1 := by omega
    rw [e]
    exact wpAny_first hi hsel (fun c a w => hQ c a v w) (f + g) listed a w hfree hr hyl h1
  induction f with
  | zero =>
    intro listed E a hcl hfree hr hy H w hw
    refine ⟨fun h => (by rw [h] at hr; cases hr), fun j hj hjn => ?_, tail 0 listed E a w hcl hw hfree hr hy H⟩
    by_cases hji : j = i
    · subst hji
      exact ⟨oi, ki, hi, hy, H⟩
    · -- no other operation of the head is left
      exfalso
      have hx := hy.out hw
      obtain ⟨ω, w', hω, hw'⟩ := hx
      have := (H ω hω w' hw').1 j (ready_mono hj hji)
      omega
  | succ f ih =>
    intro listed E a hcl0 hfree hr hy H w hw
    refine ⟨fun h => (by rw [h] at hr; cases hr), fun j hj hjn => ?_, tail (f + 1) listed E a w hcl0 hw hfree hr hy H⟩
    by_cases hji : j = i
    · subst hji
      exact ⟨oi, ki, hi, hy, H⟩
    · have hx := hy.out hw
      obtain ⟨ω0, w1, hω0, hw1⟩ := hx
      obtain ⟨hjun, oj, hoj, hall⟩ := mem_ready.1 hj
      have hap : oi.apart ops oj = true := hfree j oj hoj hji hjun fun e he hb heq => by
        have h1 := hall e he hb
        rw [heq, getD_both (mem_ready.1 hr).1] at h1
        cases h1
      obtain ⟨ap1, ap2, ap3⟩ := Oper.apart_spec hap
      have hj' := ready_mono hj hji
      obtain ⟨oj', kj, hoj', hrj, _⟩ := (H ω0 hω0 w1 hw1).2.1 j hj' hjn
      rw [hoj] at hoj'
      cases hoj'
      rw [Env.only_env ki ω0 ap1, Runs.put (hsel j oj · · hoj) ap1] at hrj
      refine ⟨oj, kj, hoj, hrj, fun ωj hωj => ?_⟩
      refine ih (listed.setIfInBounds j true) (kj.env oj ωj E) (a.put oj.dst (kj.res oj ωj)) (hcl0.set hj) (fun k ok hk hki hkun hno => ?_) (ready_mono hr (Ne.symm hji)) ?_ fun ωi hωi => ?_
      · refine hfree k ok hk hki ?_ hno
        by_cases hjk : j = k
        · subst hjk
          exact hjun
        · rwa [getD_set_ne true hjk] at hkun
      · rw [Env.only_env kj ωj ap3, Runs.put (hsel i oi · · hi) ap3]
        exact hy
      · -- from what is known behind 'i', at any world of the class
        rw [Env.only_env kj ωj ap3, Fits.put (hsel i oi · · hi) ap3] at hωi
        have big : ∀ w', Cl w0 (ki.env oi ωi E) w' → AO fr Ψ P md ops Q w0 n g f ((listed.setIfInBounds i true).setIfInBounds j true) (kj.env oj ωj (ki.env oi ωi E)) ((a.put oi.dst (ki.res oi ωi)).put oj.dst (kj.res oj ωj)) := by
          intro w' hw'
          obtain ⟨oj', kj', hoj', hrj', hk'⟩ := (H ωi hωi w' hw').2.1 j hj' hjn
          rw [hoj] at hoj'
          cases hoj'
          rw [Env.only_env ki ωi ap1, Runs.put (hsel j oj · · hoj) ap1] at hrj'
          have hcl : Cl w0 (E.only ops oj) w' := by
            have := hw'.only (ops := ops) oj
            rwa [Env.only_env ki ωi ap1] at this
          have hkk : kj' = kj := Runs.det hrj' hrj hcl
          subst hkk
          exact hk' ωj (by rw [Env.only_env ki ωi ap1, Fits.put (hsel j oj · · hoj) ap1]; exact hωj)
        have conv : AO fr Ψ P md ops Q w0 n g f ((listed.setIfInBounds j true).setIfInBounds i true) (ki.env oi ωi (kj.env oj ωj E)) ((a.put oj.dst (kj.res oj ωj)).put oi.dst (ki.res oi ωi)) ↔
            AO fr Ψ P md ops Q w0 n g f ((listed.setIfInBounds i true).setIfInBounds j true) (kj.env oj ωj (ki.env oi ωi E)) ((a.put oi.dst (ki.res oi ωi)).put oj.dst (kj.res oj ωj)) := by
          rw [Kind.env_comm ki kj ωi ωj, Array.setIfInBounds_comm _ _ (fun e => hji e), ← Act.put_comm a _ _ ap2]
        rw [conv]
        -- the statement asks for every world of the class: take that world
        have sub : ∀ w', Cl w0 (kj.env oj ωj (ki.env oi ωi E)) w' → Cl w0 (ki.env oi ωi E) w' := fun w' hw' => hw'.sub fun s C u hs => Kind.env_le oj kj ωj s C u hs
        cases f with
        | zero => exact fun w' hw' => big w' (sub w' hw') w' hw'
        | succ f => exact fun w' hw' => big w' (sub w' hw') w' hw'

def wpLex (fr : Oper → Nat) (Ψ : Oper → Out → Prop) (P : Program) (ops : Array Oper) (Q : Exit → Act → World → Prop) (w0 : World) (tail : List Oper) : List Oper → Env → Act → Prop
  | [], E, a => ∀ x, Cl w0 E x → wpList P ops Q tail a x
  | o :: rest, E, a => (∃ x, Cl w0 E x) → ∃ k, Runs fr Ψ P ops w0 (E.only ops o) o a k ∧ ∀ ω, Fits Ψ P w0 (E.only ops o) o a k ω → wpLex fr Ψ P ops Q w0 tail rest (k.env o ω E) (a.put o.dst (k.res o ω))

theorem AO.lex {n g : Nat} {tail : List Oper} (hsel : Region.noSelect ops = true) (hQ : ∀ c a d v w, Q (.panic c) (a.put d v) w → Q (.panic c) a w) (hl : ordLate fr md ops n = true) (htail : ∀ j, tail[j]? = ops[n + j]?) (hg : tail.length = g) :
    ∀ (l : List Oper) (k : Nat) (listed : Array Bool) (E : Env) (a : Act), Closed md ops listed → (∀ j, j < l.length → l[j]? = ops[k + j]?) → k + l.length = n → ordHead md ops g l.length k listed = true →
    wpLex fr Ψ P ops Q w0 tail l E a → AO fr Ψ P md ops Q w0 n g l.length listed E a
  | [], k, listed, E, a, _, _, hk, hB, h => by
    have hkn : k = n := by simpa using hk
    subst hkn
    simp only [List.length_nil, ordHead, Bool.and_eq_true] at hB
    refine fun w hw => ⟨fun j hj => by simpa using List.all_eq_true.1 hB.2 j hj, ?_⟩
    subst hg
    exact wpAny_of_seq tail k listed a w htail hB.1 (h w hw)
  | o :: l, k, listed, E, a, hcl, hll, hk, hB, h => by
    simp only [List.length_cons] at hk
    simp only [List.length_cons, ordHead, Bool.and_eq_true] at hB
    have h0 : ops[k]? = some o := by simpa using (hll 0 (by simp)).symm
    by_cases hne : ∃ x, Cl w0 E x
    · obtain ⟨kd, hr, hrest⟩ := h hne
      refine AO.first h0 (by omega) (Region.noSelect_spec hsel) (fun c a v w => hQ c a o.dst v w) (fun t ot ht hot => ordLate_spec hl (by omega) h0 t ot ht hot) l.length listed E a hcl (Region.free_spec h0 hB.1.2) (by simpa using hB.1.1) hr fun ω hω => ?_
      exact AO.lex hsel hQ hl htail hg l (k + 1) _ _ _ (hcl.set (by simpa using hB.1.1)) (fun j hj => by have := hll (j + 1) (by simp; omega); simpa [Nat.add_assoc, Nat.add_comm 1 j] using this) (by omega) hB.2 (hrest ω hω)
    · exact fun w hw => absurd ⟨w, hw⟩ hne

theorem wp_region_ord {id : Nat} {a : Act} {w : World} {l : List Oper} (n : Nat) (hm : P.follows .mixedOrders = true) (hB : ordB fr .any l.toArray n = true)
    (hQ : ∀ c a d v w, Q (.panic c) (a.put d v) w → Q (.panic c) a w)
    (h : wpLex fr Ψ P l.toArray Q w.drew (l.drop n) (l.take n) Env.none a) : (Code.region id l.toArray true).wp P Q a w := by
  simp only [ordB, Bool.and_eq_true, decide_eq_true_eq] at hB
  obtain ⟨⟨⟨hsel, hn⟩, hl⟩, hh⟩ := hB
  have hn' : n ≤ l.length := by simpa using hn
  have htl : (l.take n).length = n := by simp; omega
  have hdl : (l.drop n).length = l.toArray.size - n := by simp
  have H := AO.lex (md := .any) (g := l.toArray.size - n) hsel hQ hl (fun j => by simp [List.getElem?_drop]) hdl (l.take n) 0 _ Env.none a (Closed.none _) (fun j hj => by
    have hj' : j < n := by rw [htl] at hj; exact hj
    simp [hj']) (by simpa using htl) (by rw [htl]; exact hh) h
  refine wp_region_any hm ?_
  have := AO.any _ _ _ _ w.drew H ⟨Below.refl _ _, fun s B o e => e.elim⟩
  rw [htl, show n + (l.toArray.size - n) = l.toArray.size by omega] at this
  exact this

/-! ### The moves of a walk -/
variable {tail rest : List Oper} {o : Oper} {a : Act}
theorem wpLex_nil (h : ∀ x, Cl w0 E x → wpList P ops Q tail a x) : wpLex fr Ψ P ops Q w0 tail [] E a := h
theorem wpLex_skip (hna : sp fr o = 0) (hw : Region.wanted o (yielded ops a.tmps) = false) (h : wpLex fr Ψ P ops Q w0 tail rest E (a.put o.dst undef)) : wpLex fr Ψ P ops Q w0 tail (o :: rest) E a :=
  fun _ => ⟨.val undef, ⟨hna, .inr ⟨hw, rfl⟩⟩, fun _ _ => h⟩
theorem wpLex_fix (hna : sp fr o = 0) (hw : Region.wanted o (yielded ops a.tmps) = true)
    (h : ∀ F : Env, Hid (∀ s B u, (o.looksAt ops).contains s = true → E s B u → F s B u) → ∀ R, GrowsUp R → Nonempty (GrE w0 F R) → ∀ K : Act → Prop, (∀ a', wpLex fr Ψ P ops Q w0 tail rest E a' → K a') → o.quiet P a (fun x => ∃ g : GrE w0 F R, x = g.1) K) :
    wpLex fr Ψ P ops Q w0 tail (o :: rest) E a := by
  rintro ⟨x0, hx0⟩
  replace h := h (E.only ops o) (fun s B u h1 h2 => ⟨h1, h2⟩)
  obtain ⟨v, hv, hk⟩ := h (fun _ => True) (fun _ _ _ _ => trivial) ⟨⟨x0, hx0.only o, trivial⟩⟩ (wpLex fr Ψ P ops Q w0 tail rest E) (fun _ h => h)
  refine ⟨.val v, ⟨hna, .inl ⟨hw, fun x hx => ?_⟩⟩, fun _ _ => hk⟩
  have h1 := hv x ⟨⟨x, hx, trivial⟩, rfl⟩
  obtain ⟨u, hu, _⟩ := h (fun y => Below x.heap.size x y) (fun y z hy hz => hy.trans (hz.mono hy.size)) ⟨⟨x, hx, Below.refl _ _⟩⟩ (fun _ => True) (fun _ _ => trivial)
  have h2 := hu x ⟨⟨x, hx, Below.refl _ _⟩, rfl⟩
  have : v = u := quietUpon_det h1 h2
  subst this
  exact quietUpon_mono (fun y ⟨g, hg⟩ => hg ▸ g.2.2) h2
theorem wpLex_blk (hna : sp fr o = 0) (hw : Region.wanted o (yielded ops a.tmps) = true) (obj : Obj) (hrun : ∀ x, Cl w0 (E.only ops o) x → (execOp a.eval o).run P x = .ok (.value (blkVal o x.heap.size)) (x.alloc obj))
    (h : ∀ B, w0.heap.size ≤ B → wpLex fr Ψ P ops Q w0 tail rest (E.upd o.dst B obj) (a.put o.dst (blkVal o B))) : wpLex fr Ψ P ops Q w0 tail (o :: rest) E a :=
  fun _ => ⟨.blk obj, ⟨hna, hw, hrun⟩, fun ω hω => h ω.B hω⟩
/-- A call: whatever it returns, a fact about it is known. -/
theorem wpLex_call (hs : sp fr o = 2) (hgd : o.guard = none) (f : FuncId) (args : Array Value) (hrun : ∀ x, Cl w0 (E.only ops o) x → (execOp a.eval o).run P x = .ok (.enter f args) x)
    (hc : ∀ x, Cl w0 (E.only ops o) x → Calls P f args x fun e y => ∃ ω : Out, e = .returned ω.v ∧ Below x.heap.size x y ∧ (ω.got = true → w0.heap.size ≤ ω.B ∧ y.heap[ω.B]? = some ω.obj ∧ ∀ p ∈ ω.more, w0.heap.size ≤ p.1 ∧ y.heap[p.1]? = some p.2) ∧ Ψ o ω)
    (h : ∀ ω : Out, Ψ o ω → (ω.got = true → w0.heap.size ≤ ω.B) → wpLex fr Ψ P ops Q w0 tail rest (if ω.got then (E.upd o.dst ω.B ω.obj).more o.dst ω.more else E) (a.put o.dst ω.v)) : wpLex fr Ψ P ops Q w0 tail (o :: rest) E a :=
  fun _ => ⟨.call, ⟨hs, by simp [Region.wanted, hgd], fun x hx => ⟨f, args, hrun x hx, hc x hx⟩⟩, fun ω hω => h ω hω.1 hω.2⟩
theorem lex_call (hs : sp fr o = 2) (hw : Region.wanted o (yielded ops a.tmps) = true) (f : FuncId) (args : Array Value) (hrun : ∀ x, Cl w0 (E.only ops o) x → (execOp a.eval o).run P x = .ok (.enter f args) x)
    (hc : ∀ x, Cl w0 (E.only ops o) x → Calls P f args x fun e y => ∃ ω : Out, e = .returned ω.v ∧ Below x.heap.size x y ∧ (ω.got = true → w0.heap.size ≤ ω.B ∧ y.heap[ω.B]? = some ω.obj ∧ ∀ p ∈ ω.more, w0.heap.size ≤ p.1 ∧ y.heap[p.1]? = some p.2) ∧ Ψ o ω)
    (h : ∀ ω : Out, Ψ o ω → wpLex fr Ψ P ops Q w0 tail rest (if ω.got then (E.upd o.dst ω.B ω.obj).more o.dst ω.more else E) (a.put o.dst ω.v)) : wpLex fr Ψ P ops Q w0 tail (o :: rest) E a :=
  fun _ => ⟨.call, ⟨hs, hw, fun x hx => ⟨f, args, hrun x hx, hc x hx⟩⟩, fun ω hω => h ω hω.1⟩
theorem lex_val (hna : sp fr o = 0) (hw : Region.wanted o (yielded ops a.tmps) = true) (v : Value) (hrun : ∀ x, Cl w0 (E.only ops o) x → (execOp a.eval o).run P x = .ok (.value v) x)
    (h : wpLex fr Ψ P ops Q w0 tail rest E (a.put o.dst v)) : wpLex fr Ψ P ops Q w0 tail (o :: rest) E a :=
  fun _ => ⟨.val v, ⟨hna, .inl ⟨hw, fun x hx => by unfold Oper.quietAt; rw [hrun x hx]; exact ⟨rfl, rfl⟩⟩⟩, fun _ _ => h⟩
theorem lex_callv (hna : sp fr o = 0) (hw : Region.wanted o (yielded ops a.tmps) = true) (f : FuncId) (args : Array Value) (v : Value) (hrun : ∀ x, Cl w0 (E.only ops o) x → (execOp a.eval o).run P x = .ok (.enter f args) x)
    (hc : ∀ x, Cl w0 (E.only ops o) x → Calls P f args x fun e y => e = .returned v ∧ Below x.heap.size x y)
    (h : wpLex fr Ψ P ops Q w0 tail rest E (a.put o.dst v)) : wpLex fr Ψ P ops Q w0 tail (o :: rest) E a :=
  fun _ => ⟨.val v, ⟨hna, .inl ⟨hw, fun x hx => by unfold Oper.quietAt; rw [hrun x hx]; exact ⟨rfl, hc x hx⟩⟩⟩, fun _ _ => h⟩
/-- What asks nothing of the world, by its values. -/
theorem wpLex_free (hs : sp fr o = 3) (hgd : o.guard = none) (v : Value) (hrun : ∀ x, (execOp a.eval o).run P x = .ok (.value v) x) (h : wpLex fr Ψ P ops Q w0 tail rest E (a.put o.dst v)) : wpLex fr Ψ P ops Q w0 tail (o :: rest) E a :=
  fun _ => ⟨.free v, ⟨hs, by simp [Region.wanted, hgd], hrun⟩, fun _ _ => h⟩
/-- An append onto a row of one place that is full: whatever row comes out. -/
theorem wpLex_app (hgd : o.guard = none) (s x : Operand) (t tx : TypeId) (ho : o.op = .call { callee := .builtin .append, args := #[s, x], argTypes := #[t, tx] })
    (base : Nat) (e : TypeId) (i : TypeInfo) (z : Value) (bytes : Nat) (ht : P.underlying t = some (.slice e)) (hi : P.info? e = some i) (hz : i.zero = some z) (hsize : i.size = 1) (hby : i.bytes = bytes) (hzs : z.cells.size = 1)
    (B0 : Nat) (u : Value) (hv : a.eval s = .slice (some ⟨B0, 0, none⟩) 1 1) (hB0 : w0.heap.size ≤ B0) (hbase : base ≤ w0.heap.size) (hlit : ∀ x, Cl w0 (E.only ops o) x → x.heap[B0]? = some (.cells #[u] e (0, 0)))
    (X : Value) (m : Nat) (news : List Value) (hX : a.eval x = X) (hs : ∀ x, Cl w0 (E.only ops o) x → Src P 1 tx X m news x) (h63 : 1 + m ≤ maxLen) (hbytes : (1 + m) * bytes ≤ 140737488355328)
    (h : ∀ g cap obj, w0.heap.size ≤ g → (∀ y : World, y.heap[g]? = some obj → y.ownsRow base e 1 (.slice (some ⟨g, 0, none⟩) (1 + m) cap) (1 + m) (u :: news)) → wpLex fr Ψ P ops Q w0 tail rest (E.upd o.dst g obj) (a.put o.dst (.slice (some ⟨g, 0, none⟩) (1 + m) cap))) :
    wpLex fr Ψ P ops Q w0 tail (o :: rest) E a := by
  subst hby
  have hw : Region.wanted o (yielded ops a.tmps) = true := by simp [Region.wanted, hgd]
  have hap : sp fr o = 1 := by unfold sp isApp; rw [ho]; rfl
  have hrun : ∀ x, Cl w0 (E.only ops o) x → ∃ g cap obj w', (execOp a.eval o).run P x = .ok (.value (.slice (some ⟨g, 0, none⟩) (1 + m) cap)) w' ∧ Below x.heap.size x w' ∧ w0.heap.size ≤ g ∧ w'.heap[g]? = some obj ∧
      (∀ y : World, y.heap[g]? = some obj → y.ownsRow base e 1 (.slice (some ⟨g, 0, none⟩) (1 + m) cap) (1 + m) (u :: news)) := by
    intro y hy
    have hl := hlit y hy
    have hy0 := hy.below.size
    have hS := hs y hy
    by_cases hm : m = 0
    · subst hm
      have hn : news = [] := List.eq_nil_of_length_eq_zero (by simpa using hS.newsLen)
      subst hn
      refine ⟨B0, 1, _, y, ?_, Below.refl _ _, hB0, hl, fun y' hy' => ⟨rfl, .inr ⟨B0, 1, #[u], rfl, by omega, hy', Nat.le_refl _, by unfold maxLen; omega, rfl, rfl⟩⟩⟩
      have hr := run_append_nothing (P := P) y t tx o.type e i ht hi (some ⟨B0, 0, none⟩) 1 1 (Nat.le_refl _) X (hsize ▸ hS)
      unfold execOp
      simp only [ho, resolve, invoke, builtin, Sem.run_bind, Sem.run_pure, Result.andThen_ok, List.map_toArray, List.map_cons, List.map_nil, hv, hX, hr]
    · have hold : (Builtin.firstCells i.size 1 (.slice (some ⟨B0, 0, none⟩) 1 1)).run P y.drew = .ok [u].toArray y.drew := by
        refine run_firstCells_some (P := P) y.drew i.size 1 ⟨B0, 0, none⟩ 1 1 [u] (by rw [hsize]; rfl) fun j v hj => ?_
        have hj0 : j = 0 := by
          have := (List.getElem?_eq_some_iff.1 hj).1
          simp at this; exact this
        subst hj0
        simp at hj
        subst hj
        have := cell_of_row y B0 0 #[u] e (0, 0) hl
        simpa [Addr.add] using this
      have hr := run_append_grow_src (P := P) y t tx o.type e i z ht hi hz (some ⟨B0, 0, none⟩) 1 1 [u] hold X m news (hsize ▸ hS) (by omega) (by unfold maxLen at h63; omega) (growslice_fits (by omega) hbytes)
      have hex : (execOp a.eval o).run P y = .ok (.value (.slice (some ⟨y.heap.size, 0, none⟩) (1 + m) (grownCap y (1 + m) 1 e))) (y.drew.alloc (.cells (([u] ++ news).toArray ++ Builtin.zeroCells z.cells (grownCap y (1 + m) 1 e - (1 + m))) e)) := by
        unfold execOp
        simp only [ho, resolve, invoke, builtin, Sem.run_bind, Sem.run_pure, Result.andThen_ok, List.map_toArray, List.map_cons, List.map_nil, hv, hX, hr]
      refine ⟨y.heap.size, _, _, _, hex, ((Below.refl y.heap.size y).drew).alloc (Nat.le_refl _) _, hy0, heap_alloc_new y.drew _, fun y' hy' => ⟨?_, .inr ⟨y.heap.size, _, _, rfl, by omega, hy', grownCap_ge y (1 + m) 1 e, grownCap_le_maxLen y (1 + m) 1 e h63, ?_, ?_⟩⟩⟩
      · have := hS.newsLen; simp at this ⊢; omega
      · have h1 := grownCap_ge y (1 + m) 1 e
        have h2 := hS.newsLen
        simp only [Array.size_append, List.size_toArray, List.length_append, List.length_cons, List.length_nil, size_zeroCells, hzs]
        omega
      · have h2 := hS.newsLen
        simp only [Array.toList_append]
        rw [List.take_append_of_le_length (by simp; omega)]
        rw [List.take_of_length_le (by simp; omega)]
        rfl
  intro hne
  refine ⟨.app, ⟨hap, hw, fun x hx => ?_⟩, fun ω hω => ?_⟩
  · obtain ⟨g, cap, obj, w', h1, h2, h3, h4, _⟩ := hrun x hx
    exact ⟨_, w', g, obj, h1, h2, h3, rfl, h4⟩
  · obtain ⟨hB, hv0, x, y, hx, hex, hyB⟩ := hω
    obtain ⟨g, cap, obj, w', h1, h2, h3, h4, h5⟩ := hrun x hx
    rw [h1] at hex
    simp only [Result.ok.injEq, Next.value.injEq] at hex
    obtain ⟨e1, rfl⟩ := hex
    obtain ⟨ωB, ωv, ωo⟩ := ω
    simp only at e1 hv0 hyB
    subst e1
    have e2 : g = ωB := by simpa [Value.ownBlock] using hv0
    subst e2
    rw [h4] at hyB
    injection hyB with e3
    subst e3
    exact h g cap obj h3 h5
end
end Go.Proofs.YtibogpidnnodnaaGreatDoor.OrdD

/- check's Ins, of two instructions without anything. -/
namespace Go.Proofs.YtibogpidnnodnaaGreatDoor
open Go.RowKit Go.Deep

/-- A row of one nought, told by its block. -/
def TG (ω : OrdD.Out) : Prop := ω.got = true ∧ ω.v = .slice (some ⟨ω.B, 0, none⟩) 1 1 ∧ ω.obj = .cells #[.int .i64 0] 3 (0, 0)
theorem tags_told {w0 x : World} (hk : Below w0.heap.size w0 x) {op : Int} (hop : op = 177 ∨ op = 19) :
    Calls Tryz.prog 39 #[.int .i64 op, .int .i64 49] x fun e z => ∃ ω : OrdD.Out, e = .returned ω.v ∧ Below x.heap.size x z ∧ (ω.got = true → w0.heap.size ≤ ω.B ∧ z.heap[ω.B]? = some ω.obj ∧ ∀ p ∈ ω.more, w0.heap.size ≤ p.1 ∧ z.heap[p.1]? = some p.2) ∧ TG ω := by
  refine (tags_none op hop x).mono ?_
  rintro e z ⟨g, rfl, h1, h2, h3⟩
  exact ⟨⟨g, _, _, true, []⟩, rfl, h3, fun _ => ⟨Nat.le_trans hk.size h1, h2, fun p hp => by cases hp⟩, rfl, rfl, rfl⟩
theorem con_zero {x : World} {B : Nat} (h : x.heap[B]? = some (.cells #[.int .i64 0] 3 (0, 0))) :
    Calls Tryz.prog 38 #[.slice (some ⟨B, 0, none⟩) 1 1, .int .i64 0] x fun e w' => e = .returned (.bool true) ∧ Below x.heap.size x w' :=
  conI_any 0 (some ⟨B, 0, none⟩) 1 [0] x ⟨by simp, fun _ => ⟨B, 0, rfl, (Array.getElem?_eq_some_iff.1 h).1, fun j u hu => by
    rw [Nat.zero_add, Lib.cell_of_heap h, ← Array.getElem?_toList]
    exact ic_get hu⟩⟩ (by simp)
set_option maxHeartbeats 16000000 in
set_option maxRecDepth 100000 in
theorem ins_zero (op : Nat) (v : UInt8) (b : Bool) (hop : (op : Int) = 177 ∨ (op : Int) = 19) (hv : v = 45 ∨ v = 99) (hf : Fo.form op = v.toNat) (hb : ((op : Int) != 19) = b) (w : World) :
    Calls Tryz.prog 9 #[.agg (I12 op).toArray, .int .i64 1, .int .i64 49] w fun e w' => e = .returned (.int .i64 (rulE [⟨b, 9⟩])) ∧ Below w.heap.size w w' := by
  obtain ⟨W1, hW1⟩ : ∃ W1, W1 = w.alloc (.cells (I12 op).toArray 46) := ⟨_, rfl⟩
  obtain ⟨W2, hW2⟩ : ∃ W2, W2 = W1.alloc (.cells #[.int .i64 1] 3) := ⟨_, rfl⟩
  have e1 : w.heap.size + 1 = W1.heap.size := by rw [hW1]; show _ = (w.heap.push _).size; simp
  have k1 : Below w.heap.size w W1 := by rw [hW1]; exact (Below.refl _ _).alloc (Nat.le_refl _) _
  have k2 : Below W1.heap.size W1 W2 := by rw [hW2]; exact (Below.refl _ _).alloc (Nat.le_refl _) _
  have X2 := Lib.hid (show W2.heap[w.heap.size]? = some (.cells (I12 op).toArray 46 (0, 0)) by rw [k2.block _ (by omega), hW1]; exact heap_alloc_new _ _)
  have K2 := Lib.hid (k1.trans (k2.mono k1.size))
  rw [hW1] at hW2
  have HF := Lib.hid (fun x => show Calls Tryz.prog 31 #[.int .i64 (op : Nat)] x fun e w' => e = .returned (.int .u8 (v.toNat : Int)) ∧ Below x.heap.size x w' by rw [← hf]; exact form_any op (by omega) x)
  have HI := Lib.hid (fun x => show Calls Tryz.prog 33 #[.int .u8 (v.toNat : Int), .string ⟨#[106, 119, 116, 108]⟩] x fun e w' => e = .returned (.bool false) ∧ Below x.heap.size x w' from in_any v [106, 119, 116, 108] false (by rcases hv with rfl | rfl <;> rfl) (by simp) x)
  have H5 := Lib.hid (fun x (f : Nat) (cap : Array Value) (eg : ∀ args w, (callFunc f args).run Tryz.prog w = .ok (.enter f args) w) => conFI_any f cap (fun _ => true) eg none 0 [] x (Ints.nil x none 0) (by simp) (fun x hx => by cases hx))
  have h0 : ((v.toNat : Int) != 0) = true := by rcases hv with rfl | rfl <;> rfl
  have hff : ((v.toNat : Int) != 102) = true := by rcases hv with rfl | rfl <;> rfl
  have HV := Lib.hid hv
  have HOP := Lib.hid hop
  have HB := Lib.hid hb
  clear hv hop hb hf hW1 k1 k2 e1
  go_enter Tryz.func9, Tryz.ntmps9
  go_upto_region 1 with fail
  rw [← hW2]
  clear hW2
  have f0 : W2.cell? ⟨w.heap.size, 0, none⟩ = some (.int .i64 (op : Nat)) := by rw [Lib.cell_of_heap X2.out]; rfl
  have fz := (Array.getElem?_eq_some_iff.1 X2.out).1
  go_wp2_with fail
  refine (HF.out _).mono ?_
  rintro e w3 ⟨rfl, hb⟩
  have X3 := Lib.hid ((hb.block _ fz).trans X2.out)
  have K3 := Lib.hid (K2.out.trans (hb.mono K2.out.size))
  clear hb HF X2 K2 f0 fz
  have k4 := (Below.refl w3.heap.size w3).alloc (Nat.le_refl _) (.cells #[.func (.func 32) #[] #[.pointer (some ⟨w.heap.size + 1, 0, none⟩)]] 71)
  have X4 := Lib.hid ((k4.block _ (Array.getElem?_eq_some_iff.1 X3.out).1).trans X3.out)
  have K4 := Lib.hid (K3.out.trans (k4.mono K3.out.size))
  have hsf := fun (a : Addr) (f : Fn) (x y : Array Value) (q : World) => run_store Tryz.prog q a (.func f x y) .plain rfl
  obtain ⟨u1, u2⟩ := blk_facts (heap_alloc_new w3 (.cells #[.nilFunc] 71))
  clear k4 X3 K3
  go_upto_region 3 with fail
  clear hsf u1 u2
  generalize w3.alloc (.cells #[.func (.func 32) #[] #[.pointer (some ⟨w.heap.size + 1, 0, none⟩)]] 71) = W4 at X4 K4 ⊢
  go_wp2_with fail
  refine (HI.out _).mono ?_
  rintro e w5 ⟨rfl, hb⟩
  have X5 := Lib.hid ((hb.block _ (Array.getElem?_eq_some_iff.1 X4.out).1).trans X4.out)
  have K5 := Lib.hid (K4.out.trans (hb.mono K4.out.size))
  clear hb HI X4 K4
  have f11 : w5.cell? ⟨w.heap.size, 11, none⟩ = some (.slice none 0 0) := by rw [Lib.cell_of_heap X5.out]; rfl
  have fz := (Array.getElem?_eq_some_iff.1 X5.out).1
  go_wp2_with fail
  refine (H5.out _ _ _ (fun _ _ => by go_simp)).mono ?_
  rintro e w6 ⟨rfl, hb⟩
  have X6 := Lib.hid ((hb.block _ fz).trans X5.out)
  have K6 := Lib.hid (K5.out.trans (hb.mono K5.out.size))
  clear hb H5 X5 K5 f11 fz
  go_upto_region 4 with fail
  obtain ⟨f1, f2⟩ := blk_facts X6.out
  have z1d : w.heap.size < w6.drew.heap.size := (Array.getElem?_eq_some_iff.1 X6.out).1
  have hbb := HB.out
  refine OrdD.wp_region_ord (fr := fun o => if o.dst == some 54 then 2 else 0) (Ψ := fun _ ω => TG ω) 29 (by kernel_rfl) (by kernel_rfl) (fun _ _ d _ _ h => by cases d <;> exact h) ?_
  try simp only [List.take_succ_cons, List.take_zero, List.drop_succ_cons, List.drop_zero]
  repeat (first | (refine OrdD.wpLex_skip rfl rfl ?_; simp only [Act.put, List.setIfInBounds_toArray, List.set_cons_zero, List.set_cons_succ]) | (refine OrdD.wpLex_fix rfl rfl ?_; intro F hF R hR hne K hK; go_big_quiet_op; first | (go_big_quiet_on; clear hne hR R hF F) | (apply Exists.intro; refine ⟨fun g => ?_, ?_⟩; (((first | (rw [GrE.cell g _ _ z1d]; go_simp; first | exact ⟨rfl, rfl⟩ | rfl) | (go_simp; (repeat (simp only [GrE.cell g _ _ z1d]; go_simp)); first | exact ⟨rfl, rfl⟩ | rfl) | (go_at_call 36; exact GrE.call hR (formed_zero op v HV.out _)) | (go_at_call 37; exact GrE.call hR (ranged_zero op v HV.out _))))); go_big_quiet_on; clear hne hR R hF F)) | (apply OrdD.wpLex_blk rfl rfl; (focus (intro x hx; go_simp; exact ⟨rfl, rfl⟩)); intro B hB; simp only [Act.put, blkVal, List.setIfInBounds_toArray, List.set_cons_zero, List.set_cons_succ]))
  refine OrdD.lex_call rfl rfl 39 #[.int .i64 (op : Nat), .int .i64 49] (fun x hx => by go_simp) (fun x hx => tags_told hx.below HOP.out) ?_
  intro ω hω
  have R := Lib.hid (show TG ω from hω)
  rw [if_pos R.out.1, R.out.2.1, R.out.2.2]
  clear hω
  simp only [Act.put, List.setIfInBounds_toArray, List.set_cons_zero, List.set_cons_succ]
  try simp only [List.take_succ_cons, List.take_zero, List.drop_succ_cons, List.drop_zero]
  repeat (first | (refine OrdD.wpLex_skip rfl rfl ?_; simp only [Act.put, List.setIfInBounds_toArray, List.set_cons_zero, List.set_cons_succ]) | (refine OrdD.wpLex_fix rfl rfl ?_; intro F hF R hR hne K hK; go_big_quiet_op; first | (go_big_quiet_on; clear hne hR R hF F) | (apply Exists.intro; refine ⟨fun g => ?_, ?_⟩; (((first | (rw [GrE.cell g _ _ z1d]; go_simp; first | exact ⟨rfl, rfl⟩ | rfl) | (go_simp; (repeat (simp only [GrE.cell g _ _ z1d]; go_simp)); first | exact ⟨rfl, rfl⟩ | rfl) | (go_at_call 38; have hq := hF.out 54 _ _ (by decide) (.inl (.inr ⟨rfl, rfl, rfl⟩)); exact GrE.call hR (con_zero (GrE.blk g hq))) | (go_at_call 18; have hq := hF.out 60 _ _ (by decide) (.inr ⟨rfl, rfl, rfl⟩); exact GrE.call hR (rules_blk [⟨b, 9⟩, ⟨true, 2⟩, ⟨true, 11⟩, ⟨true, 5⟩, ⟨true, 9⟩] (GrE.blk g hq) rfl (by simp)))))); go_big_quiet_on; clear hne hR R hF F)) | (apply OrdD.wpLex_blk rfl rfl; (focus (intro x hx; go_simp; exact ⟨rfl, rfl⟩)); intro B hB; simp only [Act.put, blkVal, List.setIfInBounds_toArray, List.set_cons_zero, List.set_cons_succ]))
  refine OrdD.wpLex_nil ?_
  intro w7 hw7
  have K7 := Lib.hid (K6.out.trans (((Below.refl w6.heap.size w6).drew.trans hw7.below).mono K6.out.size))
  have X7 := Lib.hid ((((Below.refl w6.heap.size w6).drew.trans hw7.below).block _ (Array.getElem?_eq_some_iff.1 X6.out).1).trans X6.out)
  clear hw7 X6 K6 f1 f2 z1d hbb HB
  cases b with
  | false =>
    rw [show rulE [⟨false, 9⟩, ⟨true, 2⟩, ⟨true, 11⟩, ⟨true, 5⟩, ⟨true, 9⟩] = 9 from rfl]
    go_wp2_with fail
    go_ret
    exact ⟨rfl, K7.out⟩
  | true =>
    rw [show rulE [⟨true, 9⟩, ⟨true, 2⟩, ⟨true, 11⟩, ⟨true, 5⟩, ⟨true, 9⟩] = 0 from rfl]
    obtain ⟨f1, f2⟩ := blk_facts X7.out
    have fz := (Array.getElem?_eq_some_iff.1 X7.out).1
    go_wp2_with fail
    refine (constant_zero _).mono ?_
    rintro e w8 ⟨rfl, hb⟩
    have K8 := Lib.hid (K7.out.trans (hb.mono K7.out.size))
    clear hb X7 K7 f1 f2 fz
    go_wp2_with fail
    go_ret
    exact ⟨rfl, K8.out⟩
theorem ins_177 (w : World) : Calls Tryz.prog 9 #[.agg (I12 177).toArray, .int .i64 1, .int .i64 49] w fun e w' => e = .returned (.int .i64 0) ∧ Below w.heap.size w w' :=
  ins_zero 177 45 true (.inl rfl) (.inl rfl) (by decide) rfl w
theorem ins_19 (w : World) : Calls Tryz.prog 9 #[.agg (I12 19).toArray, .int .i64 1, .int .i64 49] w fun e w' => e = .returned (.int .i64 9) ∧ Below w.heap.size w w' :=
  ins_zero 19 99 false (.inr rfl) (.inr rfl) (by decide) rfl w
end Go.Proofs.YtibogpidnnodnaaGreatDoor

/- slices.Equal of lines (structs of two numbers). -/
namespace Go.Proofs.YtibogpidnnodnaaGreatDoor
open Go.RowKit

def Lno.eqb (a b : Lno) : Bool := a.at_ == b.at_ && a.line == b.line
theorem Lno.eqb_iff {a b : Lno} : a.eqb b = true ↔ a = b := by
  cases a; cases b
  simp [Lno.eqb]
set_option maxHeartbeats 1000000 in
theorem eq_lno (a b : Lno) (x : World) : (Op.equalIn 10000 119 (.agg #[.int .i64 a.at_, .int .i64 a.line]) (.agg #[.int .i64 b.at_, .int .i64 b.line])).run Tryz.prog x = .ok (a.eqb b) x := by
  rw [show (10000 : Nat) = 9999 + 1 from rfl]
  unfold Lno.eqb
  go_simp
  by_cases h1 : a.at_ = b.at_ <;> by_cases h2 : a.line = b.line <;> simp [h1, h2]
/-- The call returns whether it is so. -/
def TellsB (p : Prop) (e : Ending) : Prop := ∃ b : Bool, e = .returned (.bool b) ∧ (b = true ↔ p)
set_option maxHeartbeats 4000000 in
set_option maxRecDepth 100000 in
theorem eql_any (A B : Option Addr) (c d : Nat) (xs ys : List Lno) (w : World) (ha : Sl 2 Lno.rd w A c xs) (hb : Sl 2 Lno.rd w B d ys) (hn : xs.length ≤ 140737488355328) (_hm : ys.length ≤ 140737488355328) :
    Calls Tryz.prog 86 #[.slice A xs.length c, .slice B ys.length d] w fun e w' => TellsB (xs = ys) e ∧ Below w.heap.size w w' := by
  have HA := Lib.hid ha
  have HB := Lib.hid hb
  clear ha hb
  by_cases hl : xs.length = ys.length
  · have hl2 : ((xs.length : Int) != (ys.length : Int)) = false := by simp [hl]
    go_enter Tryz.func86, Tryz.ntmps86
    go_upto_region 4 with fail
    go_loopw [13] (fun s13 wr => ∃ i : Nat, i ≤ xs.length ∧ s13 = .int .i64 i ∧ xs.take i = ys.take i ∧ Below w.heap.size w wr) (fun s13 _ => xs.length - (intOf s13).toNat)
    case atStart => exact ⟨0, Nat.zero_le _, rfl, rfl, Below.refl _ _⟩
    case round =>
      obtain ⟨i, hil, rfl, he, hK⟩ := hrel
      have K := Lib.hid hK
      have HE := Lib.hid he
      by_cases h1 : i < xs.length
      · obtain ⟨g, o, x, cx, rfl, hg, hx, hrx, _, hcx⟩ := HA.out.at_ h1
        obtain ⟨g2, o2, y, cy, rfl, hg2, hy, hry, _, hcy⟩ := HB.out.at_ (show i < ys.length by omega)
        have HCX := Lib.hid (hcx.grow hK hg)
        have HCY := Lib.hid (hcy.grow hK hg2)
        obtain rfl := Lno.leafs hrx
        obtain rfl := Lno.leafs hry
        have c0 := HCX.out 0 _ rfl
        have c1 := HCX.out 1 _ rfl
        have e0 := HCY.out 0 _ rfl
        have e1 := HCY.out 1 _ rfl
        rw [Nat.add_zero] at c0 e0
        have z1 : g < wr.heap.size := Nat.lt_of_lt_of_le hg hK.size
        have z2 : g2 < wr.heap.size := Nat.lt_of_lt_of_le hg2 hK.size
        have i1 : ¬ ((i : Int) < 0) := by omega
        have i2 : (i : Int) < (xs.length : Int) := by omega
        have i3 : (i : Int) < (ys.length : Int) := by omega
        have HX := Lib.hid hx
        have HY := Lib.hid hy
        have heq := fun q => eq_lno x y q
        clear hK he hl hx hy hcx hcy hrx hry hg hg2 hl2
        cases hxy : x.eqb y with
        | true =>
          have HT := Lib.hid (take_same HE.out HX.out (by rw [Lno.eqb_iff.1 hxy]; exact HY.out))
          rw [hxy] at heq
          go_upto_region 6 with fail
          go_quiet (fail)
          go_wp2_with fail
          exact ⟨⟨i + 1, h1, rfl, HT.out, below_drewN K.out _⟩, next_less h1⟩
        | false =>
          have HN := Lib.hid (not_same HX.out HY.out (fun e => by rw [Lno.eqb_iff.2 e] at hxy; cases hxy))
          rw [hxy] at heq
          go_upto_region 6 with fail
          go_quiet (fail)
          go_wp2_with fail
          go_ret
          exact ⟨⟨false, rfl, fun h => (by cases h), fun h => absurd h HN.out⟩, below_drewN K.out _⟩
      · have hie : i = xs.length := by omega
        have hxe : xs = ys := by
          rw [hie, List.take_length, hl, List.take_length] at he
          exact he
        have HN := Lib.hid hxe
        have h1b : ¬ i < ys.length := by omega
        clear hK he hl hxe hl2 hie
        go_wp2_with fail
        go_ret
        exact ⟨⟨true, rfl, fun _ => HN.out, fun _ => rfl⟩, K.out⟩
  · have hl2 : ((xs.length : Int) != (ys.length : Int)) = true := by simp; omega
    have HN := Lib.hid (show xs ≠ ys from fun e => hl (by rw [e]))
    clear hl
    go_enter Tryz.func86, Tryz.ntmps86
    go_wp2_with fail
    go_ret
    exact ⟨⟨false, rfl, fun h => (by cases h), fun h => absurd h HN.out⟩, Below.refl _ _⟩
end Go.Proofs.YtibogpidnnodnaaGreatDoor
