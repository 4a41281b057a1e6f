/- The walk of layer 14: unfold, whole. -/
import Derived.Test.YtbjhnfemlpbchaaWalksM
import Derived.Test.YtbjhnfemlpbchaaRound
namespace Go.Proofs.Ytbjhnfemlpbchaa
open Go.RowKit Go.Shelf
attribute [local go_sem] Oper.semAt_some

theorem unfX_calm (w : World) : Calm (w.heap.size + 4) (w.heap.size + 5) (UnfX w) := by
  rintro pre X Y row ⟨e, h0, h1, h2, h3, h8⟩ hg hr
  refine ⟨e, h0, h1, calm_cells h2 hg hr (by omega), calm_cells h3 hg hr (by omega), h8.grown hg h8.size fun k e => ?_⟩
  rcases hr k e with h | ⟨h, _⟩ <;> omega

theorem grown_set2 (w : World) (a : Addr) (v : Value) : w.grownBy (w.setCell a v) (some a.block) :=
  ⟨rfl, rfl, rfl, by show w.heap.size ≤ (w.heap.modify _ _).size; rw [Array.size_modify]; exact Nat.le_refl _, fun k _ hne => Below.heap_setCell w a v k (fun e => hne (by rw [e]))⟩
theorem Outs.set {w : World} {base : Nat} {v : Value} {out : List (List (List UInt8))} {no : Option Nat} (h : Outs w base v out no) {a : Addr} (ha : a.block < base) (u : Value) : Outs (w.setCell a u) base v out no := by
  obtain ⟨vals, k1, k2, k3⟩ := h
  exact ⟨vals, ownsRow_setCell_below k1 ha u, k2, fun j x y hx hy => ⟨ownsRow_setCell_below (k3 j x y hx hy).1 ha u, (k3 j x y hx hy).2⟩⟩
theorem TRow.set {w : World} {base : Nat} {v : Value} {xs : List (List UInt8)} (h : TRow w base v xs) {a : Addr} (ha : a.block < base) (u : Value) : TRow (w.setCell a u) base v xs := ownsRow_setCell_below h ha u
theorem set_last (xs : List (List UInt8)) (y : List UInt8) (h : xs ≠ []) : xs.set (xs.length - 1) y = xs.dropLast ++ [y] := by
  have hl : 0 < xs.length := List.length_pos_iff.2 h
  apply List.ext_getElem?
  intro k
  rw [List.getElem?_set, List.getElem?_append]
  simp only [List.length_dropLast, List.getElem?_dropLast]
  by_cases e : xs.length - 1 = k
  · subst e
    simp [hl]; omega
  · rw [if_neg e]
    by_cases e2 : k < xs.length - 1
    · simp [e2]
    · simp only [e2, if_false]
      rw [List.getElem?_eq_none (by omega)]
      cases hk : k - (xs.length - 1) with
      | zero => omega
      | succ m => rfl
theorem heap5 (w : World) (o0 o1 o2 o3 o4 : Obj) : (((((w.alloc o0).alloc o1).alloc o2).alloc o3).alloc o4).heap[w.heap.size]? = some o0 ∧ (((((w.alloc o0).alloc o1).alloc o2).alloc o3).alloc o4).heap[w.heap.size + 1]? = some o1 ∧
    (((((w.alloc o0).alloc o1).alloc o2).alloc o3).alloc o4).heap[w.heap.size + 2]? = some o2 ∧ (((((w.alloc o0).alloc o1).alloc o2).alloc o3).alloc o4).heap[w.heap.size + 3]? = some o3 ∧ (((((w.alloc o0).alloc o1).alloc o2).alloc o3).alloc o4).heap[w.heap.size + 4]? = some o4 := by
  have h0 := heap_alloc_new w o0
  have h1 := heap_alloc_new (w.alloc o0) o1
  have h2 := heap_alloc_new ((w.alloc o0).alloc o1) o2
  have h3 := heap_alloc_new (((w.alloc o0).alloc o1).alloc o2) o3
  have h4 := heap_alloc_new ((((w.alloc o0).alloc o1).alloc o2).alloc o3) o4
  have s1 : (w.alloc o0).heap.size = w.heap.size + 1 := by simp
  have s2 : ((w.alloc o0).alloc o1).heap.size = w.heap.size + 2 := by simp
  have s3 : (((w.alloc o0).alloc o1).alloc o2).heap.size = w.heap.size + 3 := by simp
  have s4 : ((((w.alloc o0).alloc o1).alloc o2).alloc o3).heap.size = w.heap.size + 4 := by simp
  rw [s1] at h1
  rw [s2] at h2
  rw [s3] at h3
  rw [s4] at h4
  refine ⟨?_, ?_, ?_, ?_, h4⟩
  · rw [Below.heap_alloc _ _ _ (by omega), Below.heap_alloc _ _ _ (by omega), Below.heap_alloc _ _ _ (by omega), Below.heap_alloc _ _ _ (by omega)]; exact h0
  · rw [Below.heap_alloc _ _ _ (by omega), Below.heap_alloc _ _ _ (by omega), Below.heap_alloc _ _ _ (by omega)]; exact h1
  · rw [Below.heap_alloc _ _ _ (by omega), Below.heap_alloc _ _ _ (by omega)]; exact h2
  · rw [Below.heap_alloc _ _ _ (by omega)]; exact h3
/-- A text of the own row is put anew. -/
theorem TRow.put {w : World} {base g cap : Nat} {xs : List (List UInt8)} (h : TRow w base (.slice (some ⟨g, 0, none⟩) xs.length cap) xs) {i : Nat} (hi : i < xs.length) (y : List UInt8) :
    TRow (w.setCell ⟨g, i, none⟩ (.string (bs y))) base (.slice (some ⟨g, 0, none⟩) xs.length cap) (xs.set i y) := by
  obtain ⟨h1, h2⟩ := h
  rcases h2 with ⟨h2, _⟩ | ⟨g', cap', cur, h2, h3, h4, h5, h6, h7, h8⟩
  · cases h2
  · injection h2 with e1 e2 e3
    injection e1 with e1
    injection e1 with e1 _ _
    subst e1 e3
    unfold TRow SRow
    rw [List.length_set]
    refine ⟨by simp [sc], .inr ⟨g, cap, cur.setIfInBounds i (.string (bs y)), rfl, h3, ?_, h5, h6, by simpa using h7, ?_⟩⟩
    · rw [setCell_eq_setRow w g i cur 9 (0, 0) _ h4]
      exact setRow_heap w g cur _ 9 (0, 0) h4
    · rw [Array.toList_setIfInBounds, List.take_set, h8]
      unfold sc
      rw [List.map_set]

theorem unfX_end {w X : World} {pre : List (List UInt8)} (e : Nat) (h0 : e ≠ 0) (h1 : (Ma.runl pre).1 = e) (r2 : X.heap[w.heap.size]? = some (.cells #[.slice none 0 0] 48 (0, 0))) (r3 : X.heap[w.heap.size + 1]? = some (.cells #[.int .i64 0] 28 (0, 0))) (r8 : Below w.heap.size w X) :
    KeepsOthers X ((X.setCell ⟨w.heap.size, 0, none⟩ (.slice none 0 0)).setCell ⟨w.heap.size + 1, 0, none⟩ (.int .i64 (e : Int))) ∧ UnfX w pre ((X.setCell ⟨w.heap.size, 0, none⟩ (.slice none 0 0)).setCell ⟨w.heap.size + 1, 0, none⟩ (.int .i64 (e : Int))) := by
  refine ⟨(KeepsOthers.setCell _ _ _).trans (KeepsOthers.setCell _ _ _), e, h0, h1, ?_, ?_, (r8.setCell (p := ⟨w.heap.size, 0, none⟩) (Nat.le_refl _) _).setCell (p := ⟨w.heap.size + 1, 0, none⟩) (Nat.le_succ _) _⟩
  · exact (Below.heap_setCell _ _ _ _ (by simp)).trans (set_one r2)
  · exact set_one ((Below.heap_setCell _ _ _ _ (by simp)).trans r3)

theorem own_apart {X : World} {base : Nat} {vo : Value} {out : List (List (List UInt8))} {no : Option Nat} (h : Outs X base vo out no) {u : Value} {x : List (List UInt8)} (k : TRow X base u x) : ∀ g, u.ownBlock = some g → vo.ownBlock ≠ some g := by
  intro g hg hv
  obtain ⟨_, c1, e1⟩ := outs_own h hv
  obtain ⟨_, c2, e2⟩ := k.cells hg
  rw [e1] at e2
  simp at e2
theorem infoStrs : (Try.prog.info? 38).map (fun i => (i.zero, i.size, i.bytes)) = some (some (.slice none 0 0), 1, 24) := by kernel_rfl

/-- A section is whole. -/
theorem unf_whole {w X w1 : World} {pre : List (List UInt8)} {out : List (List (List UInt8))} {now : List (List UInt8)} {vo v' vn : Value} {vals : List Value} {o : Obj} {no : Option Nat}
    (k : Outs X (w.heap.size + 5) vo out no) (k1 : X.ownsRow (w.heap.size + 5) 38 1 vo out.length vals) (k2 : ∀ u ∈ vals, u.oneCell' = true) (k3 : ∀ (j : Nat) u x, vals[j]? = some u → out[j]? = some x → TRow X (w.heap.size + 5) u x) (h1 : vn.oneCell' = true)
    (r7 : TRow X (w.heap.size + 5) vn now) (hown : w1.ownsRow (w.heap.size + 5) 38 1 v' (out.length + 1) (vals ++ [vn])) (hg : (X.alloc o).grownBy w1 vo.ownBlock) (he : Ma.runl pre = (0, out ++ [now], []))
    (r2 : X.heap[w.heap.size]? = some (.cells #[.slice none 0 0] 48 (0, 0))) (r3 : X.heap[w.heap.size + 1]? = some (.cells #[.int .i64 0] 28 (0, 0)))
    (r4 : X.heap[w.heap.size + 2]? = some (.cells #[vo] 48 (0, 0))) (r5 : X.heap[w.heap.size + 3]? = some (.cells #[vn] 38 (0, 0))) (r8 : Below w.heap.size w X) (hB : w.heap.size + 4 < X.heap.size) :
    KeepsOthers X ((w1.setCell ⟨w.heap.size + 2, 0, none⟩ v').setCell ⟨w.heap.size + 3, 0, none⟩ (.slice none 0 0)) ∧
    ((w1.setCell ⟨w.heap.size + 2, 0, none⟩ v').setCell ⟨w.heap.size + 3, 0, none⟩ (.slice none 0 0)).heap[w.heap.size + 4]? = X.heap[w.heap.size + 4]? ∧
    UnfI w pre ((w1.setCell ⟨w.heap.size + 2, 0, none⟩ v').setCell ⟨w.heap.size + 3, 0, none⟩ (.slice none 0 0)) ∧
    w1.heap[w.heap.size + 2]? = some (.cells #[vo] 48 (0, 0)) ∧ w1.heap[w.heap.size + 3]? = some (.cells #[vn] 38 (0, 0)) := by
  have hlow : ∀ j, j < w.heap.size + 5 → some j ≠ vo.ownBlock := fun j hj e => by have := (outs_own k e.symm).1; omega
  have at1 : ∀ j, j < w.heap.size + 5 → w1.heap[j]? = X.heap[j]? := fun j hj => (hg.block j (by simp; omega) (hlow j hj)).trans (Below.heap_alloc _ _ _ (by omega))
  have row1 : ∀ u x, TRow X (w.heap.size + 5) u x → TRow w1 (w.heap.size + 5) u x := fun u x hu =>
    TRow.kept (TRow.kept hu (World.grownBy_alloc X o none) (fun _ _ => by simp)) hg (own_apart k hu)
  refine ⟨(((KeepsOthers.alloc X o).trans (KeepsOthers.of_grownBy hg fun j o' hj ho => ?_)).trans (KeepsOthers.setCell _ _ _)).trans (KeepsOthers.setCell _ _ _), ?_, ⟨out ++ [now], [], v', .slice none 0 0, he, ?_, ?_, ?_, ?_, ?_, SRow.nil _ _ _, ?_⟩, (at1 _ (by omega)).trans r4, (at1 _ (by omega)).trans r5⟩
  · obtain ⟨hb, cur, hc⟩ := outs_own k hj
    have hc2 := (Below.heap_alloc X o j (Array.getElem?_eq_some_iff.1 hc).1).trans hc
    rw [ho] at hc2
    cases hc2
    rfl
  · exact (Below.heap_setCell _ _ _ _ (by simp)).trans ((Below.heap_setCell _ _ _ _ (by simp)).trans (at1 _ (by omega)))
  · exact (Below.heap_setCell _ _ _ _ (by simp)).trans ((Below.heap_setCell _ _ _ _ (by simp)).trans ((at1 _ (by omega)).trans r2))
  · exact (Below.heap_setCell _ _ _ _ (by simp)).trans ((Below.heap_setCell _ _ _ _ (by simp)).trans ((at1 _ (by omega)).trans r3))
  · exact (Below.heap_setCell _ _ _ _ (by simp)).trans (set_one ((at1 _ (by omega)).trans r4))
  · exact set_one ((Below.heap_setCell _ _ _ _ (by simp)).trans ((at1 _ (by omega)).trans r5))
  · refine Outs.set (Outs.set ⟨vals ++ [vn], by rw [List.length_append]; exact hown, fun u hu => ?_, fun j u x hu hx => ⟨row1 u x ?_, fun _ _ => by simp [Value.ownBlock]⟩⟩ (by simp) _) (by simp) _
    · rcases List.mem_append.1 hu with hu | hu
      · exact k2 u hu
      · rw [List.mem_singleton] at hu; rw [hu]; exact h1
    · have hvl : vals.length = out.length := by have := k1.1; simpa using this
      by_cases hj : j < out.length
      · rw [List.getElem?_append_left (by omega)] at hu
        rw [List.getElem?_append_left hj] at hx
        exact k3 j u x hu hx
      · have hj2 := (List.getElem?_eq_some_iff.1 hu).1
        simp at hj2
        obtain rfl : j = out.length := by omega
        rw [← hvl] at hu
        simp at hu hx
        subst hu hx
        exact r7
  · have h9 := ((r8.alloc r8.size o).grown hg (by have := r8.size; simp; omega) (fun j e => by have := (outs_own k e).1; omega))
    exact ⟨(h9.setCell (p := ⟨w.heap.size + 2, 0, none⟩) (by simp) _).setCell (p := ⟨w.heap.size + 3, 0, none⟩) (by simp) _, by have := hg.size; simp at this; simp; omega⟩

/-- A line is put behind the section's others. -/
theorem unf_line {w X w1 : World} {pre : List (List UInt8)} {out : List (List (List UInt8))} {now : List (List UInt8)} {vo v' vn : Value} {l : List UInt8} {o : Obj}
    (k : Outs X (w.heap.size + 5) vo out vn.ownBlock) (r7 : TRow X (w.heap.size + 5) vn now) (hown : w1.ownsRow (w.heap.size + 5) 9 1 v' (now.length + 1) (sc now ++ [.string (bs l)])) (hg : (X.alloc o).grownBy w1 vn.ownBlock)
    (hblk : v'.ownBlock = vn.ownBlock ∨ v'.ownBlock = some (X.alloc o).heap.size) (he : Ma.runl pre = (0, out, now ++ [l]))
    (r2 : X.heap[w.heap.size]? = some (.cells #[.slice none 0 0] 48 (0, 0))) (r3 : X.heap[w.heap.size + 1]? = some (.cells #[.int .i64 0] 28 (0, 0)))
    (r4 : X.heap[w.heap.size + 2]? = some (.cells #[vo] 48 (0, 0))) (r5 : X.heap[w.heap.size + 3]? = some (.cells #[vn] 38 (0, 0))) (r8 : Below w.heap.size w X) (hB : w.heap.size + 4 < X.heap.size) :
    KeepsOthers X (w1.setCell ⟨w.heap.size + 3, 0, none⟩ v') ∧ (w1.setCell ⟨w.heap.size + 3, 0, none⟩ v').heap[w.heap.size + 4]? = X.heap[w.heap.size + 4]? ∧ UnfI w pre (w1.setCell ⟨w.heap.size + 3, 0, none⟩ v') ∧
    w1.heap[w.heap.size + 3]? = some (.cells #[vn] 38 (0, 0)) := by
  have hlow : ∀ j, j < w.heap.size + 5 → some j ≠ vn.ownBlock := fun j hj e => by have := (r7.cells e.symm).1; omega
  have at1 : ∀ j, j < w.heap.size + 5 → w1.heap[j]? = X.heap[j]? := fun j hj => (hg.block j (by simp; omega) (hlow j hj)).trans (Below.heap_alloc _ _ _ (by omega))
  refine ⟨((KeepsOthers.alloc X o).trans (KeepsOthers.of_grownBy hg fun j o' hj ho => ?_)).trans (KeepsOthers.setCell _ _ _), ?_, ⟨out, now ++ [l], vo, v', he, ?_, ?_, ?_, ?_, ?_, ?_, ?_⟩, (at1 _ (by omega)).trans r5⟩
  · obtain ⟨hb, cur, hc⟩ := r7.cells hj
    have hc2 := (Below.heap_alloc X o j (Array.getElem?_eq_some_iff.1 hc).1).trans hc
    rw [ho] at hc2
    cases hc2
    rfl
  · exact (Below.heap_setCell _ _ _ _ (by simp)).trans (at1 _ (by omega))
  · exact (Below.heap_setCell _ _ _ _ (by simp)).trans ((at1 _ (by omega)).trans r2)
  · exact (Below.heap_setCell _ _ _ _ (by simp)).trans ((at1 _ (by omega)).trans r3)
  · exact (Below.heap_setCell _ _ _ _ (by simp)).trans ((at1 _ (by omega)).trans r4)
  · exact set_one ((at1 _ (by omega)).trans r5)
  · refine Outs.set ((k.kept (World.grownBy_alloc X o none) (fun _ _ => by simp) (fun _ e => by cases e) (fun j e => .inl e)).kept hg (fun j hj e => ?_) (fun j e => .inl e) (fun j e => ?_)) (by simp) _
    · exact own_apart k r7 j e hj
    · rcases hblk with h | h
      · exact .inl (h ▸ e)
      · rw [h] at e
        injection e with e
        exact .inr (by omega)
  · exact TRow.set (SRow.app (ys := [l]) hown rfl) (by simp) _
  · have h9 := ((r8.alloc r8.size o).grown hg (by have := r8.size; simp; omega) (fun j e => by have := (r7.cells e).1; omega))
    exact ⟨h9.setCell (p := ⟨w.heap.size + 3, 0, none⟩) (by simp) _, by have := hg.size; simp at this; simp; omega⟩

/-- A line goes on. -/
theorem unf_more {w X w1 : World} {pre : List (List UInt8)} {out : List (List (List UInt8))} {now : List (List UInt8)} {vo : Value} {y : List UInt8} {g cap i : Nat}
    (k : Outs X (w.heap.size + 5) vo out (some g)) (r7 : TRow X (w.heap.size + 5) (.slice (some ⟨g, 0, none⟩) now.length cap) now) (hi : i < now.length) (he : Ma.runl pre = (0, out, now.set i y))
    (r2 : X.heap[w.heap.size]? = some (.cells #[.slice none 0 0] 48 (0, 0))) (r3 : X.heap[w.heap.size + 1]? = some (.cells #[.int .i64 0] 28 (0, 0)))
    (r4 : X.heap[w.heap.size + 2]? = some (.cells #[vo] 48 (0, 0))) (r5 : X.heap[w.heap.size + 3]? = some (.cells #[.slice (some ⟨g, 0, none⟩) now.length cap] 38 (0, 0))) (r8 : Below w.heap.size w X) (hB : w.heap.size + 4 < X.heap.size) (hb1 : Below X.heap.size X w1) :
    KeepsOthers X (w1.setCell ⟨g, i, none⟩ (.string (bs y))) ∧ (w1.setCell ⟨g, i, none⟩ (.string (bs y))).heap[w.heap.size + 4]? = X.heap[w.heap.size + 4]? ∧ UnfI w pre (w1.setCell ⟨g, i, none⟩ (.string (bs y))) := by
  obtain ⟨hb, cur, hc⟩ := r7.cells (g := g) rfl
  have at1 : ∀ j, j < w.heap.size + 5 → (w1.setCell ⟨g, i, none⟩ (.string (bs y))).heap[j]? = X.heap[j]? := fun j hj => (Below.heap_setCell _ _ _ _ (by simp; omega)).trans (hb1.block _ (by omega))
  have hsz := hb1.size
  have k' : Outs w1 (w.heap.size + 5) vo out (some g) := k.kept (grownBy_below hb1 none) (fun _ _ => by simp) (fun _ e => by cases e) (fun j e => .inl e)
  have r7' : TRow w1 (w.heap.size + 5) (.slice (some ⟨g, 0, none⟩) now.length cap) now := SRow.grow r7 hb1
  refine ⟨KeepsOthers.trans ⟨hsz, fun j o hj _ => (hb1.block j (Array.getElem?_eq_some_iff.1 hj).1).trans hj⟩ (KeepsOthers.setCell w1 _ _), at1 _ (by omega), ?_⟩
  refine ⟨out, now.set i y, vo, .slice (some ⟨g, 0, none⟩) now.length cap, he, (at1 _ (by omega)).trans r2, (at1 _ (by omega)).trans r3, (at1 _ (by omega)).trans r4, (at1 _ (by omega)).trans r5, ?_, r7'.put hi y, (Below.after' r8 hb1 (Nat.le_refl _)).setCell (p := ⟨g, i, none⟩) (by simp; omega) _, by simp; omega⟩
  exact k'.kept (grown_set2 w1 ⟨g, i, none⟩ _) (fun j hj e => own_apart k' r7' g rfl (by rw [hj]; exact e.symm)) (fun j e => .inl e) (fun j e => .inl e)

theorem Outs.forget {w : World} {base b' : Nat} {v : Value} {out : List (List (List UInt8))} {no : Option Nat} (h : Outs w base v out no) (hb : b' ≤ base) : Outs w b' v out none := by
  have low : ∀ {e : TypeId} {v : Value} {n : Nat} {xs : List Value}, w.ownsRow base e 1 v n xs → w.ownsRow b' e 1 v n xs := by
    rintro e v n xs ⟨h1, h2⟩
    refine ⟨h1, ?_⟩
    rcases h2 with h2 | ⟨g, cap, cur, h2, h3, h4⟩
    · exact .inl h2
    · exact .inr ⟨g, cap, cur, h2, Nat.le_trans hb h3, h4⟩
  obtain ⟨vals, k1, k2, k3⟩ := h
  exact ⟨vals, low k1, k2, fun j u x hu hx => ⟨low (k3 j u x hu hx).1, fun _ _ => by simp⟩⟩
/-- What is no block of cells may turn. -/
theorem Outs.putObj {w : World} {base : Nat} {v : Value} {out : List (List (List UInt8))} {no : Option Nat} (h : Outs w base v out no) {D : Nat} {o : Obj} (hD : w.heap[D]? = some o) (ho : o.isCells = false) (o' : Obj) : Outs (w.putObj D o') base v out no :=
  h.kept (grownBy_putObj' w D o') (fun k hk e => by
    injection e with e; subst e
    obtain ⟨_, cur, hc⟩ := outs_own h hk
    rw [hD] at hc; cases hc; cases ho) (fun k e => .inr (.inr fun cur hc => by
    injection e with e; subst e
    rw [hD] at hc; cases hc; cases ho)) (fun k e => .inl e)
/-- The section under way is put behind the others. -/
theorem unf_app {w X w1 : World} {out : List (List (List UInt8))} {now : List (List UInt8)} {vo v' vn : Value} {vals : List Value} {o : Obj} {no : Option Nat}
    (k : Outs X (w.heap.size + 5) vo out no) (k1 : X.ownsRow (w.heap.size + 5) 38 1 vo out.length vals) (k2 : ∀ u ∈ vals, u.oneCell' = true) (k3 : ∀ (j : Nat) u x, vals[j]? = some u → out[j]? = some x → TRow X (w.heap.size + 5) u x) (h1 : vn.oneCell' = true)
    (r7 : TRow X (w.heap.size + 5) vn now) (hown : w1.ownsRow (w.heap.size + 5) 38 1 v' (out.length + 1) (vals ++ [vn])) (hg : (X.alloc o).grownBy w1 vo.ownBlock) (r8 : Below w.heap.size w X) (hB : w.heap.size + 4 < X.heap.size) :
    Outs w1 (w.heap.size + 5) v' (out ++ [now]) none ∧ (∀ j, j < w.heap.size + 5 → w1.heap[j]? = X.heap[j]?) ∧ Below w.heap.size w w1 ∧ KeepsOthers X w1 := by
  have hlow : ∀ j, j < w.heap.size + 5 → some j ≠ vo.ownBlock := fun j hj e => by have := (outs_own k e.symm).1; omega
  have row1 : ∀ u x, TRow X (w.heap.size + 5) u x → TRow w1 (w.heap.size + 5) u x := fun u x hu =>
    TRow.kept (TRow.kept hu (World.grownBy_alloc X o none) (fun _ _ => by simp)) hg (own_apart k hu)
  refine ⟨⟨vals ++ [vn], by rw [List.length_append]; exact hown, fun u hu => ?_, fun j u x hu hx => ⟨row1 u x ?_, fun _ _ => by simp⟩⟩, fun j hj => (hg.block j (by simp; omega) (hlow j hj)).trans (Below.heap_alloc _ _ _ (by omega)),
    (r8.alloc r8.size o).grown hg (by have := r8.size; simp; omega) (fun j e => by have := (outs_own k e).1; omega), (KeepsOthers.alloc X o).trans (KeepsOthers.of_grownBy hg fun j o' hj ho => ?_)⟩
  · rcases List.mem_append.1 hu with hu | hu
    · exact k2 u hu
    · rw [List.mem_singleton] at hu; rw [hu]; exact h1
  · have hvl : vals.length = out.length := by have := k1.1; simpa using this
    by_cases hj : j < out.length
    · rw [List.getElem?_append_left (by omega)] at hu
      rw [List.getElem?_append_left hj] at hx
      exact k3 j u x hu hx
    · have hj2 := (List.getElem?_eq_some_iff.1 hu).1
      simp at hj2
      obtain rfl : j = out.length := by omega
      rw [← hvl] at hu
      simp at hu hx
      subst hu hx
      exact r7
  · obtain ⟨hb, cur, hc⟩ := outs_own k hj
    have hc2 := (Below.heap_alloc X o j (Array.getElem?_eq_some_iff.1 hc).1).trans hc
    rw [ho] at hc2
    cases hc2
    rfl

/-- What is left at the end. -/
theorem unf_last {w Z : World} {D : Nat} {v : Value} {e : Nat} {out : List (List (List UInt8))} {no : Option Nat} (c0 : Z.heap[w.heap.size]? = some (.cells #[v] 48 (0, 0))) (c1 : Z.heap[w.heap.size + 1]? = some (.cells #[.int .i64 (e : Int)] 28 (0, 0)))
    (hK : Z.heap[D]? = some (.deferred (some []))) (hO : Outs Z (w.heap.size + 5) v out no) (hB : Below w.heap.size w Z) (hD : w.heap.size ≤ D) :
    (Z.putObj D (.deferred none)).cell? ⟨w.heap.size, 0, none⟩ = some v ∧ (Z.putObj D (.deferred none)).cell? ⟨w.heap.size + 1, 0, none⟩ = some (.int .i64 (e : Int)) ∧ Outs (Z.putObj D (.deferred none)) w.heap.size v out none ∧ Below w.heap.size w (Z.putObj D (.deferred none)) :=
  ⟨cell_kept ((blk_facts c0).1 0) (grownBy_putObj' _ D (.deferred none)) (fun r e => by cases e; exact ⟨_, hK, rfl⟩), cell_kept ((blk_facts c1).1 0) (grownBy_putObj' _ D (.deferred none)) (fun r e => by cases e; exact ⟨_, hK, rfl⟩),
    (hO.putObj hK rfl _).forget (by omega), hB.grown (grownBy_putObj' _ D _) hB.size (fun k e => by cases e; exact hD)⟩

set_option maxHeartbeats 8000000 in
set_option maxRecDepth 100000 in
theorem unfold_any (text : List UInt8) (w : World) (hl : text.length ≤ 1000000) :
    Calls Try.prog 22 #[.string (bs text)] w fun e w' => ∃ v, e = .returned (.tuple #[v, .int .i64 ((Ma.runl (Ma.cuts text)).1 : Nat)]) ∧ Outs w' w.heap.size v (Ma.close (Ma.runl (Ma.cuts text))) none ∧ Below w.heap.size w w' := by
  refine (callsIn_wide (n := 3)).1 ?_
  refine callsIn_of_wp_marks Try.func22 rfl trivial ?_ rfl
  simp only [Try.ntmps22, List.size_toArray, List.length_cons, List.length_nil, Nat.reduceAdd, Nat.reduceSub, Array.replicate_succ, Array.replicate_zero, List.push_toArray, List.append_toArray, List.nil_append, List.cons_append]
  gi_wp2_with (refine ⟨trivial, ?_⟩; gi_at_call 37; refine (callsIn_wide.2 (lines_any _ _)).mono ?_; rintro e w' ⟨rfl, rfl⟩)
  have hW : ∀ W0 : World, W0 = (((((w.alloc (.cells #[.slice none 0 0] 48)).alloc (.cells #[.int .i64 0] 28)).alloc (.cells #[.slice none 0 0] 48)).alloc (.cells #[.slice none 0 0] 38)).alloc (.cells #[.string (bs text)] 9)) →
      UnfI w [] W0 ∧ W0.heap[w.heap.size + 4]? = some (.cells #[.string (bs text)] 9 (0, 0)) ∧ W0.heap.size = w.heap.size + 5 := by
    rintro W0 rfl
    obtain ⟨p0, p1, p2, p3, p4⟩ := heap5 w (.cells #[.slice none 0 0] 48) (.cells #[.int .i64 0] 28) (.cells #[.slice none 0 0] 48) (.cells #[.slice none 0 0] 38) (.cells #[.string (bs text)] 9)
    refine ⟨⟨[], [], .slice none 0 0, .slice none 0 0, rfl, p0, p1, p2, p3, Outs.nil _ _ _, SRow.nil _ _ _, ?_⟩, p4, by simp⟩
    refine ⟨?_, by simp⟩
    repeat' (first | with_reducible exact Below.refl _ _ | with_reducible assumption | with_reducible apply below_drewN | with_reducible apply Below.drew | with_reducible apply Below.setCell | with_reducible apply Below.alloc)
    all_goals first | done | (simp; done) | (simp; omega) | omega
  generalize (((((w.alloc (.cells #[.slice none 0 0] 48)).alloc (.cells #[.int .i64 0] 28)).alloc (.cells #[.slice none 0 0] 48)).alloc (.cells #[.slice none 0 0] 38)).alloc (.cells #[.string (bs text)] 9)) = W0 at hW ⊢
  obtain ⟨hI0, hB0, hS0⟩ := hW W0 rfl
  clear hW
  refine wpIn_rangeCell (P := Try.prog) (gf := 46) (lb := #[.pointer (some ⟨w.heap.size + 4, 0, none⟩)]) rfl (enters_of Try.func46 (by kernel_rfl) rfl) (by omega)
    (lines_hands (w.heap.size + 4) text W0 hB0 (by omega)) (fun _ => rfl) (UnfI w) (UnfX w) (hS0 ▸ unfI_calm w) (hS0 ▸ unfX_calm w) hI0
    (fun x => { tmps := #[.string (bs text), undef, .pointer (some ⟨w.heap.size, 0, none⟩), .pointer (some ⟨w.heap.size + 1, 0, none⟩), .pointer (some ⟨w.heap.size + 1 + 1, 0, none⟩), .pointer (some ⟨w.heap.size + 1 + 1 + 1, 0, none⟩), .string (bs x), .string (bs text), .func (.func 46) #[] #[.pointer (some ⟨w.heap.size + 1 + 1 + 1 + 1, 0, none⟩)], .string (bs x), undef, undef, undef, undef, undef, undef, undef, undef, undef, undef, undef, undef, undef, undef, undef, undef, undef, undef, undef, undef, undef, undef, undef, undef, undef, undef, undef, undef, undef, undef, undef, undef, undef, undef, undef, undef, undef, undef, undef, undef, undef, undef, undef, undef, undef, undef, undef, undef, undef, undef, undef, undef], defers := [] }) ?assign ?body ?done ?stop
  case assign =>
    intro l x X K hK
    gi_wp2
    exact hK
  case body =>
    rintro lp pre x X ⟨out, now, vo, vn, r1, r2, r3, r4, r5, r6, r7, r8, r9⟩ hpx
    have hsm := Ma.small_run pre
    rw [r1] at hsm
    obtain ⟨hs1, hs2, hs3, _⟩ := hsm
    obtain ⟨hpl, hpf⟩ := Ma.pre_len hpx
    have hxl : x.length ≤ text.length := by
      rw [List.flatten_append, List.length_append] at hpf
      simp at hpf; omega
    have hpl2 : pre.length + 1 ≤ text.length := by simpa using hpl
    have hpf2 : pre.flatten.length + x.length ≤ text.length := by
      rw [List.flatten_append, List.length_append] at hpf
      simpa using hpf
    clear hpl hpf
    have HT1 := Lib.hid (show ∀ (n : Nat) (y : World), CallsIn (Fence.wide.inRound lp) n Try.prog 38 #[.string (bs x), .string ⟨#[10]⟩] y fun e w' => e = .returned (.string (bs (Lib.trimSuffix x [10]))) ∧ w' = y from fun n y => CallsIn.inRound lp (callsIn_wide.2 (Try.strings_TrimSuffix (bs x) ⟨#[10]⟩ y (by rw [bs_size]; omega))))
    have htl : (Lib.trimSuffix x [10]).length ≤ x.length := by
      unfold Lib.trimSuffix
      split
      · rw [List.length_take]; omega
      · exact Nat.le_refl _
    have HT2 := Lib.hid (show ∀ (n : Nat) (y : World), CallsIn (Fence.wide.inRound lp) n Try.prog 38 #[.string (bs (Lib.trimSuffix x [10])), .string ⟨#[13]⟩] y fun e w' => e = .returned (.string (bs (Ma.trim x))) ∧ w' = y from fun n y => CallsIn.inRound lp (callsIn_wide.2 (Try.strings_TrimSuffix (bs (Lib.trimSuffix x [10])) ⟨#[13]⟩ y (by rw [bs_size]; omega))))
    have hst := Lib.hid (show Ma.runl (pre ++ [x]) = Ma.put (0, out, now) (Ma.trim x) by rw [Ma.runl_snoc, r1]; rfl)
    have hll := Nat.le_trans (Ma.trim_le x) hxl
    generalize Lib.trimSuffix x [10] = x1 at HT1 HT2
    generalize hlt : Ma.trim x = l at HT2 hst hll
    have hlx : l.length ≤ x.length := by rw [← hlt]; exact Ma.trim_le x
    obtain ⟨d1, d2⟩ := blk_facts r2
    obtain ⟨d3, d4⟩ := blk_facts r3
    obtain ⟨d5, d6⟩ := blk_facts r4
    obtain ⟨d7, d8⟩ := blk_facts r5
    have e1 : X.cell? ⟨w.heap.size, 0, none⟩ = some (.slice none 0 0) := d1 0
    have e2 := d2 0
    have e3 : X.cell? ⟨w.heap.size + 1, 0, none⟩ = some (.int .i64 0) := d3 0
    have e4 := d4 0
    have e5 : X.cell? ⟨w.heap.size + 1 + 1, 0, none⟩ = some vo := d5 0
    have e6 : X.frozen? ⟨w.heap.size + 1 + 1, 0, none⟩ = false := d6 0
    have e7 : X.cell? ⟨w.heap.size + 1 + 1 + 1, 0, none⟩ = some vn := d7 0
    have e8 : X.frozen? ⟨w.heap.size + 1 + 1 + 1, 0, none⟩ = false := d8 0
    have hzl := bs_size l
    have R2 := Lib.hid r2
    have R3 := Lib.hid r3
    have R4 := Lib.hid r4
    have R5 := Lib.hid r5
    have R6 := Lib.hid r6
    have R7 := Lib.hid r7
    have R8 := Lib.hid r8
    clear d1 d2 d3 d4 d5 d6 d7 d8 r1 r2 r3 r4 r5 r6 r7 r8 hlt htl
    have RR : ∀ (out' : List (List (List UInt8))) (now' : List (List UInt8)) (vo' vn' : Value) (Y : World), Ma.runl (pre ++ [x]) = (0, out', now') → True := fun _ _ _ _ _ _ => trivial
    by_cases h72 : 72 < l.length
    · have q1 : decide (72 < l.length) = true := decide_eq_true h72
      have q1' : decide ((72 : Int) < (l.length : Int)) = true := decide_eq_true (by omega)
      have HE := Lib.hid (show (Ma.runl (pre ++ [x])).1 = 3 by rw [hst.out]; unfold Ma.put; rw [if_pos h72])
      clear h72
      gi_wp2_with (refine ⟨trivial, ?_⟩; gi_at_call 38; first | (with_reducible refine (HT1.out _ _).mono ?_; rintro e w' ⟨rfl, rfl⟩) | (with_reducible refine (HT2.out _ _).mono ?_; rintro e w' ⟨rfl, rfl⟩))
      obtain ⟨k1, k2⟩ := unfX_end 3 (by decide) HE.out R2.out R3.out R8.out
      exact ⟨k1, k2⟩
    have q1 : decide (72 < l.length) = false := decide_eq_false h72
    have q1' : decide ((72 : Int) < (l.length : Int)) = false := decide_eq_false (by omega)
    obtain ⟨An, cn, rfl⟩ : ∃ A c, vn = .slice A now.length c := by
      rcases R7.out.cases with ⟨h1, h2⟩ | ⟨g, cap, h1, _⟩
      · exact ⟨none, 0, by rw [h1, h2]; rfl⟩
      · exact ⟨_, _, h1⟩
    by_cases h0 : l = []
    · subst h0
      have q2 : (bs []).toList.isEmpty = true := by rw [bs_list]; rfl
      by_cases hn : now = []
      · have HE := Lib.hid (show Ma.runl (pre ++ [x]) = (0, out, now) by rw [hst.out]; unfold Ma.put; rw [if_neg (by simp), if_pos rfl, if_pos hn])
        subst hn
        have q3 : decide (0 < ([] : List (List UInt8)).length) = false := rfl
        gi_wp2_with (refine ⟨trivial, ?_⟩; gi_at_call 38; first | (with_reducible refine (HT1.out _ _).mono ?_; rintro e w' ⟨rfl, rfl⟩) | (with_reducible refine (HT2.out _ _).mono ?_; rintro e w' ⟨rfl, rfl⟩))
        exact ⟨KeepsOthers.refl _, rfl, out, [], vo, .slice An 0 cn, HE.out, R2.out, R3.out, R4.out, R5.out, R6.out, R7.out, R8.out, r9⟩
      · have HE := Lib.hid (show Ma.runl (pre ++ [x]) = (0, out ++ [now], []) by rw [hst.out]; unfold Ma.put; rw [if_neg (by simp), if_pos rfl, if_neg hn])
        have hnl : 0 < now.length := List.length_pos_iff.2 hn
        have q3 : decide (0 < now.length) = true := decide_eq_true hnl
        have q3' : decide ((0 : Int) < (now.length : Int)) = true := decide_eq_true (by omega)
        obtain ⟨vals, k1, k2, k3⟩ := R6.out
        have K1 := Lib.hid k1
        have K2 := Lib.hid k2
        have K3 := Lib.hid k3
        obtain ⟨i0, hi, hz0, hz1, hz2⟩ := info_parts infoStrs
        clear hn k1 k2 k3
        gi_wp2_with (first | (refine ⟨trivial, ?_⟩; gi_at_call 38; first | (with_reducible refine (HT1.out _ _).mono ?_; rintro e w' ⟨rfl, rfl⟩) | (with_reducible refine (HT2.out _ _).mono ?_; rintro e w' ⟨rfl, rfl⟩)) | (gi_at_builtin; refine wpListIn_append_own_at _ rfl _ _ 48 rfl (w.heap.size + 5) 38 i0 (.slice none 0 0) 1 24 Try.underlying48 hi hz0 hz1 hz2 rfl (by decide) vo _ _ rfl (K1.out.alloc _) ⟨w'.heap.size, 0, none⟩ 1 1 [.slice An now.length cn] rfl rfl (cell_one_new _ _ _) (by simp [Value.oneCell']) (by unfold maxLen; omega) (by omega) (by simp; omega) ?_; intro v' w1 hown' hgrow _ _; obtain ⟨g', cap', rfl⟩ := ownsRow_succ hown'; obtain ⟨m1, m2, m3, m4, m5⟩ := unf_whole (pre := pre ++ [x]) R6.out K1.out K2.out (fun j u y hu hy => (K3.out j u y hu hy).1) rfl R7.out hown' hgrow HE.out R2.out R3.out R4.out R5.out R8.out (by omega); have f1 : w1.cell? ⟨w.heap.size + 1 + 1, 0, none⟩ = some vo := (blk_facts m4).1 0; have f2 : w1.frozen? ⟨w.heap.size + 1 + 1, 0, none⟩ = false := (blk_facts m4).2 0; have f3 : w1.cell? ⟨w.heap.size + 1 + 1 + 1, 0, none⟩ = some (.slice An now.length cn) := (blk_facts m5).1 0; have f4 : w1.frozen? ⟨w.heap.size + 1 + 1 + 1, 0, none⟩ = false := (blk_facts m5).2 0; have M1 := Lib.hid m1; have M2 := Lib.hid m2; have M3 := Lib.hid m3; clear m1 m2 m3 m4 m5 hown' hgrow))
        exact ⟨M1.out, M2.out, M3.out⟩
    · obtain ⟨c, hcl⟩ : ∃ c, l[0]? = some c := ⟨_, List.getElem?_eq_getElem (List.length_pos_iff.2 h0)⟩
      have ic := fun y => bs_index l 0 c hcl .i64 0 rfl y
      have hhd : l.head? = some c := by rw [List.head?_eq_getElem?]; exact hcl
      have q2 : (bs l).toList.isEmpty = false := by rw [bs_list]; cases l with | nil => exact absurd rfl h0 | cons _ _ => rfl
      by_cases h32 : c.toNat = 32
      · have q4 : ((c.toNat : Int) != 32) = false := by simp [h32]
        have hc32 : c = 32 := UInt8.toNat_inj.1 h32
        by_cases hn : now = []
        · have HE := Lib.hid (show (Ma.runl (pre ++ [x])).1 = 2 by rw [hst.out]; unfold Ma.put; rw [if_neg (by omega), if_neg h0, if_neg (by rw [hhd, hc32]; simp), if_pos hn])
          subst hn
          have q5 : decide (0 < ([] : List (List UInt8)).length) = false := rfl
          clear h32 h0 hhd hc32 hcl
          gi_wp2_with (refine ⟨trivial, ?_⟩; gi_at_call 38; first | (with_reducible refine (HT1.out _ _).mono ?_; rintro e w' ⟨rfl, rfl⟩) | (with_reducible refine (HT2.out _ _).mono ?_; rintro e w' ⟨rfl, rfl⟩))
          obtain ⟨k1, k2⟩ := unfX_end 2 (by decide) HE.out R2.out R3.out R8.out
          exact ⟨k1, k2⟩
        · obtain ⟨m, hm⟩ : ∃ m, now.length = m + 1 := ⟨now.length - 1, by have := List.length_pos_iff.2 hn; omega⟩
          obtain ⟨la, hla⟩ : ∃ la, now[m]? = some la := ⟨_, List.getElem?_eq_getElem (by omega)⟩
          have hgl : now.getLastD [] = la := by
            rw [List.getLastD_eq_getLast?, List.getLast?_eq_getElem?, hm, Nat.add_sub_cancel, hla]; rfl
          have hx : (bs l).extract 1 l.length = bs l.tail := by
            rw [bs_extract, List.take_of_length_le (by rw [List.length_drop]; exact Nat.le_refl _), List.drop_one]
          have HX := Lib.hid (show bs la ++ (bs l).extract 1 l.length = bs (la ++ l.tail) by rw [hx, bs_append])
          have HE := Lib.hid (show Ma.runl (pre ++ [x]) = (0, out, now.set m (la ++ l.tail)) by
            rw [hst.out]; unfold Ma.put
            rw [if_neg (by omega), if_neg h0, if_neg (by rw [hhd, hc32]; simp), if_neg hn]
            simp only [hgl]
            rw [← set_last now _ hn, hm, Nat.add_sub_cancel])
          rcases R7.out.cases with ⟨h1, h2⟩ | ⟨g, cap, h1, hg1, hg2, hg3, hgc⟩
          · exact absurd h2 hn
          injection h1 with h1 _ h4
          subst h1 h4
          have cla := hgc m la hla
          obtain ⟨_, cur, hcur⟩ := R7.out.cells (g := g) rfl
          have cfr : X.frozen? ⟨g, m, none⟩ = false := (blk_facts hcur).2 m
          have hlal : la.length ≤ text.length := by have := hs3 la (List.mem_of_getElem? hla); omega
          have hzla := bs_size la
          have hzt : ((bs l).extract 1 l.length).size = l.length - 1 := by rw [hx, bs_size, List.length_tail]
          have MM := Lib.hid (fun w1 hb1 => unf_more (w1 := w1) (pre := pre ++ [x]) R6.out R7.out (by omega : m < now.length) HE.out R2.out R3.out R4.out R5.out R8.out (by omega) hb1)
          have q3 : decide (0 < m + 1) = true := by simp
          have q6 : ((m + 1 : Nat) == 0) = false := by simp
          have ek : ((m + 1 : Nat) : Int) - 1 = (m : Int) := by omega
          have ek2 : ((m : Int) + 1) - 1 = (m : Int) := by omega
          have ek3 : (m : Int) < (m : Int) + 1 := by omega
          have ek4 : (0 : Int) ≤ (m : Int) := by omega
          rw [hm] at e7
          clear hcur hgc hgl hla hn h32 hhd hc32 hcl hx R7
          gi_wp2_with (refine ⟨trivial, ?_⟩; gi_at_call 38; first | (with_reducible refine (HT1.out _ _).mono ?_; rintro e w' ⟨rfl, rfl⟩) | (with_reducible refine (HT2.out _ _).mono ?_; rintro e w' ⟨rfl, rfl⟩))
          have hwr : IntKind.i64.wrap (m : Int) = (m : Int) := by rw [IntKind.wrap_i64]; omega
          have hl1 : 1 ≤ l.length := List.length_pos_iff.2 h0
          have hl2 : (1 : Int) ≤ (l.length : Int) := by omega
          have zn : w.heap.size + 1 + 1 + 1 < w'.drew.heap.size := by show _ < w'.heap.size; omega
          have zg : g < w'.drew.heap.size := hg2
          refine wpIn_region_ord 9 (by kernel_rfl) (by kernel_rfl) (fun _ _ d _ _ h => by cases d <;> exact h) (by kernel_rfl) (by rintro ⟨_, _, h⟩; exact h) ?_
          simp only [List.take_succ_cons, List.take_zero, List.drop_succ_cons, List.drop_zero]
          repeat (first | (refine wpLex_skip rfl ?_; simp only [Act.put, List.setIfInBounds_toArray, List.set_cons_zero, List.set_cons_succ]) | (refine wpLex_fix rfl ?_; intro F hF R hR hne K hK; go_big_quiet_op; first | (go_big_quiet_on; clear hne hR R hF F) | (apply Exists.intro; refine ⟨fun g => ?_, ?_⟩; (((first | (rw [GrE.cell g _ _ zn]; go_simp; first | exact ⟨rfl, rfl⟩ | rfl) | (go_simp; (repeat (simp only [GrE.cell g _ _ zg]; go_simp)); first | exact ⟨rfl, rfl⟩ | rfl)))); go_big_quiet_on; clear hne hR R hF F)) | (apply wpLex_blk rfl; (focus (intro x hx; go_simp; exact ⟨rfl, rfl⟩)); intro B hB; simp only [Act.put, blkVal, List.setIfInBounds_toArray, List.set_cons_zero, List.set_cons_succ]))
          refine wpLex_nil ?_
          intro w1 hw1
          have hb1 := hw1.below
          have hbx : Below w'.heap.size w' w1 := Below.after' (Below.refl w'.heap.size w').drew hb1 (Nat.le_refl _)
          have cla1 : w1.cell? ⟨g, m, none⟩ = some (.string (bs la)) := (hbx.cell (p := ⟨g, m, none⟩) hg2).trans cla
          have cfr1 : w1.frozen? ⟨g, m, none⟩ = false := (hbx.frozen (p := ⟨g, m, none⟩) hg2).trans cfr
          have MX := Lib.hid (MM.out w1 hbx)
          clear hw1 hb1 hbx
          rw [HX.out]
          go_wp2
          exact MX.out
      · have q4 : ((c.toNat : Int) != 32) = true := by simp; omega
        have HE := Lib.hid (show Ma.runl (pre ++ [x]) = (0, out, now ++ [l]) by
          rw [hst.out]; unfold Ma.put
          rw [if_neg (by omega), if_neg h0, if_pos (by rw [hhd]; intro h; injection h with h; exact h32 (by rw [h]; rfl))])
        obtain ⟨i0, hi, hz0, hz1, hz2⟩ := info_parts infoStr
        clear h32 h0 hhd hcl
        gi_wp2_with (first | (refine ⟨trivial, ?_⟩; gi_at_call 38; first | (with_reducible refine (HT1.out _ _).mono ?_; rintro e w' ⟨rfl, rfl⟩) | (with_reducible refine (HT2.out _ _).mono ?_; rintro e w' ⟨rfl, rfl⟩)) | (gi_at_builtin; refine wpListIn_append_own_at _ rfl _ _ 38 rfl (w.heap.size + 5) 9 i0 (.string ⟨#[]⟩) 1 16 Try.underlying38 hi hz0 hz1 hz2 rfl (by decide) (.slice An now.length cn) now.length (sc now) rfl (World.ownsRow.alloc R7.out _) ⟨w'.heap.size, 0, none⟩ 1 1 [.string (bs l)] rfl rfl (cell_one_new _ _ _) (by simp [Value.oneCell']) (by unfold maxLen; omega) (by omega) (by simp; omega) ?_; intro v' w1 hown' hgrow _ hblk; obtain ⟨g', cap', rfl⟩ := ownsRow_succ hown'; obtain ⟨m1, m2, m3, m4⟩ := unf_line (pre := pre ++ [x]) R6.out R7.out hown' hgrow hblk HE.out R2.out R3.out R4.out R5.out R8.out (by omega); have f3 : w1.cell? ⟨w.heap.size + 1 + 1 + 1, 0, none⟩ = some (.slice An now.length cn) := (blk_facts m4).1 0; have f4 : w1.frozen? ⟨w.heap.size + 1 + 1 + 1, 0, none⟩ = false := (blk_facts m4).2 0; have M1 := Lib.hid m1; have M2 := Lib.hid m2; have M3 := Lib.hid m3; clear m1 m2 m3 m4 hown' hgrow hblk))
        exact ⟨M1.out, M2.out, M3.out⟩
  case done =>
    rintro D X hD ⟨out, now, vo, vn, r1, r2, r3, r4, r5, r6, r7, r8, r9⟩ hK
    have hsm := Ma.small_run (Ma.cuts text)
    rw [r1] at hsm
    obtain ⟨hs1, hs2, _, _⟩ := hsm
    have hcl := Ma.cuts_len text
    have hol : out.length ≤ text.length := Nat.le_trans hs1 hcl
    have hnl0 : now.length ≤ text.length := Nat.le_trans hs2 hcl
    obtain ⟨d1, d2⟩ := blk_facts r2
    obtain ⟨d3, d4⟩ := blk_facts r3
    obtain ⟨d5, d6⟩ := blk_facts r4
    obtain ⟨d7, d8⟩ := blk_facts r5
    have e1 : X.cell? ⟨w.heap.size, 0, none⟩ = some (.slice none 0 0) := d1 0
    have e2 := d2 0
    have e3 : X.cell? ⟨w.heap.size + 1, 0, none⟩ = some (.int .i64 0) := d3 0
    have e4 := d4 0
    have e5 : X.cell? ⟨w.heap.size + 1 + 1, 0, none⟩ = some vo := d5 0
    have e6 : X.frozen? ⟨w.heap.size + 1 + 1, 0, none⟩ = false := d6 0
    have e7 : X.cell? ⟨w.heap.size + 1 + 1 + 1, 0, none⟩ = some vn := d7 0
    have e8 : X.frozen? ⟨w.heap.size + 1 + 1 + 1, 0, none⟩ = false := d8 0
    have R2 := Lib.hid r2
    have R3 := Lib.hid r3
    have R4 := Lib.hid r4
    have R5 := Lib.hid r5
    have R6 := Lib.hid r6
    have R7 := Lib.hid r7
    have R8 := Lib.hid r8
    have HK := Lib.hid hK
    have hr1 := Lib.hid r1
    clear d1 d2 d3 d4 d5 d6 d7 d8 r1 r2 r3 r4 r5 r6 r7 r8 hK
    obtain ⟨An, cn, rfl⟩ : ∃ A c, vn = .slice A now.length c := by
      rcases R7.out.cases with ⟨h1, h2⟩ | ⟨g, cap, h1, _⟩
      · exact ⟨none, 0, by rw [h1, h2]; rfl⟩
      · exact ⟨_, _, h1⟩
    obtain ⟨Ao, co, rfl⟩ : ∃ A c, vo = .slice A out.length c := by
      obtain ⟨vals, k1, _⟩ := R6.out
      rcases k1.2 with ⟨h1, h2⟩ | ⟨g, cap, cur, h1, _⟩
      · exact ⟨none, 0, by rw [h1, h2]⟩
      · exact ⟨_, _, h1⟩
    by_cases hn : now = []
    · have hfin := Lib.hid (show Ma.close (Ma.runl (Ma.cuts text)) = out by rw [hr1.out]; unfold Ma.close; rw [if_neg (by simp), if_pos hn])
      have h0e := Lib.hid (show (Ma.runl (Ma.cuts text)).1 = 0 by rw [hr1.out])
      subst hn
      have c0 : ((X.setCell ⟨w.heap.size, 0, none⟩ (.slice Ao out.length co)).setCell ⟨w.heap.size + 1, 0, none⟩ (.int .i64 0)).heap[w.heap.size]? = _ := (Below.heap_setCell _ _ _ _ (by simp)).trans (set_one R2.out)
      have c1 : ((X.setCell ⟨w.heap.size, 0, none⟩ (.slice Ao out.length co)).setCell ⟨w.heap.size + 1, 0, none⟩ (.int .i64 ((0 : Nat) : Int))).heap[w.heap.size + 1]? = _ := set_one ((Below.heap_setCell _ _ _ _ (by simp)).trans R3.out)
      have hKZ := ((KeepsOthers.setCell X ⟨w.heap.size, 0, none⟩ (.slice Ao out.length co)).trans (KeepsOthers.setCell _ ⟨w.heap.size + 1, 0, none⟩ (.int .i64 0))).same D _ HK.out rfl
      have hO := (R6.out.set (a := ⟨w.heap.size, 0, none⟩) (by simp) (.slice Ao out.length co)).set (a := ⟨w.heap.size + 1, 0, none⟩) (by simp) (.int .i64 0)
      have hBZ := (R8.out.setCell (p := ⟨w.heap.size, 0, none⟩) (Nat.le_refl _) (.slice Ao out.length co)).setCell (p := ⟨w.heap.size + 1, 0, none⟩) (Nat.le_succ _) (.int .i64 0)
      have C0 := Lib.hid c0
      have C1 := Lib.hid c1
      have HO := Lib.hid hO
      have HBZ := Lib.hid hBZ
      have HKZ := Lib.hid hKZ
      clear c0 c1 hKZ hO hBZ
      gi_wp2
      refine ⟨by simp, .inl ⟨_, _, rfl, run_takeDeferred HKZ.out, ?_⟩⟩
      obtain ⟨z0, z1, z2, z3⟩ := unf_last C0.out C1.out HKZ.out HO.out HBZ.out (by omega)
      refine ⟨.tuple #[.slice Ao out.length co, .int .i64 ((0 : Nat) : Int)], ?_, _, by rw [h0e.out], by rw [hfin.out]; exact z2, z3⟩
      simp [results, Try.f22, go_sem, z0, z1]
    · have hfin := Lib.hid (show Ma.close (Ma.runl (Ma.cuts text)) = out ++ [now] by rw [hr1.out]; unfold Ma.close; rw [if_neg (by simp), if_neg hn])
      have h0e := Lib.hid (show (Ma.runl (Ma.cuts text)).1 = 0 by rw [hr1.out])
      have hnl : 0 < now.length := List.length_pos_iff.2 hn
      have q3 : decide (0 < now.length) = true := decide_eq_true hnl
      have q3' : decide ((0 : Int) < (now.length : Int)) = true := decide_eq_true (by omega)
      obtain ⟨vals, k1, k2, k3⟩ := R6.out
      have K1 := Lib.hid k1
      have K2 := Lib.hid k2
      have K3 := Lib.hid k3
      obtain ⟨i0, hi, hz0, hz1, hz2⟩ := info_parts infoStrs
      clear hn k1 k2 k3
      gi_wp2_with (gi_at_builtin; refine wpListIn_append_own_at _ rfl _ _ 48 rfl (w.heap.size + 5) 38 i0 (.slice none 0 0) 1 24 Try.underlying48 hi hz0 hz1 hz2 rfl (by decide) (.slice Ao out.length co) _ _ rfl (K1.out.alloc _) ⟨X.heap.size, 0, none⟩ 1 1 [.slice An now.length cn] rfl rfl (cell_one_new _ _ _) (by simp [Value.oneCell']) (by unfold maxLen; omega) (by omega) (by simp; omega) ?_; intro v' w1 hown' hgrow _ _; obtain ⟨g', cap', rfl⟩ := ownsRow_succ hown'; obtain ⟨m1, m2, m3, m4⟩ := unf_app R6.out K1.out K2.out (fun j u y hu hy => (K3.out j u y hu hy).1) rfl R7.out hown' hgrow R8.out (by omega); have t2 := (m2 w.heap.size (by omega)).trans R2.out; have t3 := (m2 (w.heap.size + 1) (by omega)).trans R3.out; have t4 := (m2 (w.heap.size + 2) (by omega)).trans R4.out; have f1 : w1.cell? ⟨w.heap.size + 1 + 1, 0, none⟩ = some (.slice Ao out.length co) := (blk_facts t4).1 0; have f2 : w1.frozen? ⟨w.heap.size + 1 + 1, 0, none⟩ = false := (blk_facts t4).2 0; have f3 : w1.cell? ⟨w.heap.size, 0, none⟩ = some (.slice none 0 0) := (blk_facts t2).1 0; have f4 : w1.frozen? ⟨w.heap.size, 0, none⟩ = false := (blk_facts t2).2 0; have f5 : w1.cell? ⟨w.heap.size + 1, 0, none⟩ = some (.int .i64 0) := (blk_facts t3).1 0; have f6 : w1.frozen? ⟨w.heap.size + 1, 0, none⟩ = false := (blk_facts t3).2 0; have M1 := Lib.hid m1; have M3 := Lib.hid m3; have M4 := Lib.hid m4; have T2 := Lib.hid t2; have T3 := Lib.hid t3; clear m1 m2 m3 m4 t2 t3 t4 hown' hgrow)
      have c00 : (w1.setCell ⟨w.heap.size + 2, 0, none⟩ (.slice (some ⟨g', 0, none⟩) (out.length + 1) cap')).heap[w.heap.size]? = some (.cells #[.slice none 0 0] 48 (0, 0)) := (Below.heap_setCell _ _ _ _ (by simp)).trans T2.out
      have c01 : (w1.setCell ⟨w.heap.size + 2, 0, none⟩ (.slice (some ⟨g', 0, none⟩) (out.length + 1) cap')).heap[w.heap.size + 1]? = some (.cells #[.int .i64 0] 28 (0, 0)) := (Below.heap_setCell _ _ _ _ (by simp)).trans T3.out
      have hk1 := KeepsOthers.setCell w1 ⟨w.heap.size + 2, 0, none⟩ (.slice (some ⟨g', 0, none⟩) (out.length + 1) cap')
      have hO1 := M1.out.set (a := ⟨w.heap.size + 2, 0, none⟩) (by simp) (.slice (some ⟨g', 0, none⟩) (out.length + 1) cap')
      have hB1 := M3.out.setCell (p := ⟨w.heap.size + 2, 0, none⟩) (by simp) (.slice (some ⟨g', 0, none⟩) (out.length + 1) cap')
      generalize w1.setCell ⟨w.heap.size + 2, 0, none⟩ (.slice (some ⟨g', 0, none⟩) (out.length + 1) cap') = w2 at c00 c01 hk1 hO1 hB1 ⊢
      have c0 : ((w2.setCell ⟨w.heap.size, 0, none⟩ (.slice (some ⟨g', 0, none⟩) (out.length + 1) cap')).setCell ⟨w.heap.size + 1, 0, none⟩ (.int .i64 0)).heap[w.heap.size]? = _ := (Below.heap_setCell _ _ _ _ (by simp)).trans (set_one c00)
      have c1 : ((w2.setCell ⟨w.heap.size, 0, none⟩ (.slice (some ⟨g', 0, none⟩) (out.length + 1) cap')).setCell ⟨w.heap.size + 1, 0, none⟩ (.int .i64 ((0 : Nat) : Int))).heap[w.heap.size + 1]? = _ := set_one ((Below.heap_setCell _ _ _ _ (by simp)).trans c01)
      have hKZ := (((M4.out.trans hk1).trans (KeepsOthers.setCell w2 ⟨w.heap.size, 0, none⟩ (.slice (some ⟨g', 0, none⟩) (out.length + 1) cap'))).trans (KeepsOthers.setCell _ ⟨w.heap.size + 1, 0, none⟩ (.int .i64 0))).same D _ HK.out rfl
      have hO := (hO1.set (a := ⟨w.heap.size, 0, none⟩) (by simp) (.slice (some ⟨g', 0, none⟩) (out.length + 1) cap')).set (a := ⟨w.heap.size + 1, 0, none⟩) (by simp) (.int .i64 0)
      have hBZ := (hB1.setCell (p := ⟨w.heap.size, 0, none⟩) (Nat.le_refl _) (.slice (some ⟨g', 0, none⟩) (out.length + 1) cap')).setCell (p := ⟨w.heap.size + 1, 0, none⟩) (Nat.le_succ _) (.int .i64 0)
      obtain ⟨z0, z1, z2, z3⟩ := unf_last c0 c1 hKZ hO hBZ (by omega)
      refine ⟨by simp, .inl ⟨_, _, rfl, run_takeDeferred hKZ, ?_⟩⟩
      refine ⟨.tuple #[.slice (some ⟨g', 0, none⟩) (out.length + 1) cap', .int .i64 ((0 : Nat) : Int)], ?_, _, by rw [h0e.out], by rw [hfin.out]; exact z2, z3⟩
      simp [results, Try.f22, go_sem, z0, z1]
  case stop =>
    rintro D pre X hD hpre ⟨e, h0, h1, r2, r3, r8⟩ hK
    have he := Ma.runl_err hpre (by omega)
    have hfin := Lib.hid (show Ma.close (Ma.runl (Ma.cuts text)) = [] by rw [he]; unfold Ma.close; rw [if_pos (by omega)])
    have h0e := Lib.hid (show (Ma.runl (Ma.cuts text)).1 = e by rw [he, h1])
    clear he h1
    gi_wp2
    refine ⟨by simp, .inl ⟨_, _, rfl, run_takeDeferred hK, ?_⟩⟩
    obtain ⟨z0, z1, z2, z3⟩ := unf_last r2 r3 hK (Outs.nil X _ none) r8 (by omega)
    refine ⟨.tuple #[.slice none 0 0, .int .i64 (e : Int)], ?_, _, by rw [h0e.out], by rw [hfin.out]; exact z2, z3⟩
    simp [results, Try.f22, go_sem, z0, z1]
end Go.Proofs.Ytbjhnfemlpbchaa
