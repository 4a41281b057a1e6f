/- The walk of layer 14: the reference's sections. -/
import Derived.Test.YtbjhnfemlpbchaaWalksS
namespace Go.Proofs.Ytbjhnfemlpbchaa
open Go.RowKit

theorem own_put {w : World} {base g n cap : Nat} {e : TypeId} {vals : List Value} (h : w.ownsRow base e 1 (.slice (some ⟨g, 0, none⟩) n cap) n vals) {i : Nat} (hi : i < n) (u : Value) :
    (w.setCell ⟨g, i, none⟩ u).ownsRow base e 1 (.slice (some ⟨g, 0, none⟩) n cap) n (vals.set i u) := by
  obtain ⟨h1, h2⟩ := h
  rcases h2 with ⟨h2, _⟩ | ⟨g', cap', cur, h2, h3, h4, h5, h6, h7, h8⟩
  · cases h2
  · injection h2 with e1 e2 e3
    injection e1 with e1
    injection e1 with e1 _ _
    subst e1 e3
    refine ⟨by simpa using h1, .inr ⟨g, cap, cur.setIfInBounds i u, rfl, h3, ?_, h5, h6, by simpa using h7, ?_⟩⟩
    · rw [setCell_eq_setRow w g i cur e (0, 0) _ h4]
      exact setRow_heap w g cur _ e (0, 0) h4
    · rw [Array.toList_setIfInBounds, List.take_set, h8]
/-- Sections of which the last one may go on: no other one lies where it lies. -/
def ROuts (w : World) (base : Nat) (v : Value) (out : List (List (List UInt8))) (op : Bool) : Prop :=
  ∃ vals, w.ownsRow base 38 1 v out.length vals ∧ (∀ u ∈ vals, u.oneCell' = true) ∧ (∀ (j : Nat) u x, vals[j]? = some u → out[j]? = some x → TRow w base u x) ∧
    (op = true → ∀ (j : Nat) u ul, j + 1 < out.length → vals[j]? = some u → vals[out.length - 1]? = some ul → ∀ k, ul.ownBlock = some k → u.ownBlock ≠ some k)
theorem ROuts.outs {w : World} {base : Nat} {v : Value} {out : List (List (List UInt8))} {op : Bool} (h : ROuts w base v out op) : Outs w base v out none := by
  obtain ⟨vals, h1, h2, h3, _⟩ := h
  exact ⟨vals, h1, h2, fun j u x hu hx => ⟨h3 j u x hu hx, fun _ _ => by simp⟩⟩
theorem ROuts.closed {w : World} {base : Nat} {v : Value} {out : List (List (List UInt8))} {op : Bool} (h : ROuts w base v out op) : ROuts w base v out false := by
  obtain ⟨vals, h1, h2, h3, _⟩ := h
  exact ⟨vals, h1, h2, h3, fun h => by cases h⟩
theorem ROuts.nil (w : World) (base : Nat) : ROuts w base (.slice none 0 0) [] false := ⟨[], World.ownsRow_nil w base 38 1, by simp, fun j u x hu => by simp at hu, fun h => by cases h⟩
theorem TRow.low {w : World} {base b' : Nat} {v : Value} {xs : List (List UInt8)} (h : TRow w base v xs) (hb : b' ≤ base) : TRow w b' v xs := by
  obtain ⟨h1, h2⟩ := h
  refine ⟨h1, ?_⟩
  rcases h2 with h2 | ⟨g, cap, cur, h2, h3, h4⟩
  · exact .inl h2
  · exact .inr ⟨g, cap, cur, h2, Nat.le_trans hb h3, h4⟩
theorem wpList_appTT {w : World} {ops : Array Oper} {rest : List Oper} {o : Oper} {a : Act} {Q : Exit → Act → World → Prop} (hgd : o.guard = none) (s x : Operand)
    (ho : o.op = .call { callee := .builtin .append, args := #[s, x], argTypes := #[48, 48] })
    (base : Nat) (v : Value) (n : Nat) (vals : List Value) (hv : a.eval s = v) (hown : w.ownsRow base 38 1 v n vals) (B : Nat) (u : Value) (hu : u.oneCell' = true) (t : TypeId) (fr : Nat × Nat) (hX : a.eval x = .slice (some ⟨B, 0, none⟩) 1 1)
    (hb : w.heap[B]? = some (.cells #[u] t fr)) (hn : n ≤ 1000000) (hbase : base ≤ w.heap.size)
    (h : ∀ v' w', w'.ownsRow base 38 1 v' (n + 1) (vals ++ [u]) → Hop w w' v.ownBlock v'.ownBlock → wpList Try.prog ops Q rest (a.put o.dst v') w') : wpList Try.prog ops Q (o :: rest) a w := by
  obtain ⟨i0, hi, hz0, hz1, hz2⟩ := info_parts infoStrs
  refine wpList_append_row hgd s x 48 48 ho base 38 i0 _ 1 24 Try.underlying48 hi hz0 hz1 hz2 rfl v _ _ hv hown _ 1 [u] hX (fun v' w' h1 h2 => h v' w' h1 h2) ?_ ?_ ?_ hbase
  · exact src_block Try.underlying48 1 1 1 _ #[u] _ _ hb rfl (by simpa using hu)
  · unfold maxLen; omega
  · omega
/-- A new section. -/
theorem ROuts.push {X X0 w1 : World} {base : Nat} {v v' un : Value} {out : List (List (List UInt8))} {vals : List Value} {x : List (List UInt8)} (k1 : X.ownsRow base 38 1 v out.length vals) (k2 : ∀ u ∈ vals, u.oneCell' = true)
    (k3 : ∀ (j : Nat) u x, vals[j]? = some u → out[j]? = some x → TRow X base u x) (hun : un.oneCell' = true) (hX0 : Below X.heap.size X X0) (hr : TRow X0 base un x) (hnew : ∀ k, un.ownBlock = some k → X.heap.size ≤ k) (hown : w1.ownsRow base 38 1 v' (out.length + 1) (vals ++ [un]))
    (hg : X0.grownBy w1 v.ownBlock) : ROuts w1 base v' (out ++ [x]) true := by
  have hvl : vals.length = out.length := by have := k1.1; simpa using this
  have off : ∀ u y, TRow X0 base u y → TRow w1 base u y := fun u y hu => hu.kept hg fun k hk e => by
    obtain ⟨_, c1, e1⟩ := hu.cells hk
    rcases k1.2 with ⟨h, _⟩ | ⟨g', cap, cur, h, _, hg', _⟩
    · rw [h] at e; simp [Value.ownBlock] at e
    · rw [h] at e
      simp [Value.ownBlock] at e
      subst e
      have := (hX0.block g' (Array.getElem?_eq_some_iff.1 hg').1).trans hg'
      rw [e1] at this
      simp at this
  refine ⟨vals ++ [un], by rw [List.length_append]; exact hown, fun u hu => ?_, fun j u y hu hy => ?_, fun _ j u ul hj hu hul k hk => ?_⟩
  · rcases List.mem_append.1 hu with hu | hu
    · exact k2 u hu
    · rw [List.mem_singleton] at hu; rw [hu]; exact hun
  · by_cases hj : j < out.length
    · rw [List.getElem?_append_left (by omega)] at hu
      rw [List.getElem?_append_left hj] at hy
      exact off u y (SRow.grow (k3 j u y hu hy) hX0)
    · have hj2 := (List.getElem?_eq_some_iff.1 hu).1
      simp at hj2
      obtain rfl : j = out.length := by omega
      rw [← hvl] at hu
      simp at hu hy
      subst hu hy
      exact off _ _ hr
  · simp only [List.length_append, List.length_cons, List.length_nil] at hj hul
    rw [List.getElem?_append_left (by omega)] at hu
    rw [show out.length + (0 + 1) - 1 = vals.length from by omega, List.getElem?_concat_length] at hul
    cases hul
    have h1 := hnew k hk
    intro e
    obtain ⟨y, hy⟩ : ∃ y, out[j]? = some y := ⟨_, List.getElem?_eq_getElem (by omega)⟩
    have := ((k3 j u y hu hy).cells e).2
    obtain ⟨cur, hc⟩ := this
    have := (Array.getElem?_eq_some_iff.1 hc).1
    omega
/-- The last one's value. -/
theorem ROuts.last {X : World} {base g cap : Nat} {pre : List (List (List UInt8))} {now : List (List UInt8)} {op : Bool} (h : ROuts X base (.slice (some ⟨g, 0, none⟩) (pre.length + 1) cap) (pre ++ [now]) op) :
    ∃ A c, X.cell? ⟨g, pre.length, none⟩ = some (.slice A now.length c) ∧ TRow X base (.slice A now.length c) now ∧ g < X.heap.size ∧ X.frozen? ⟨g, pre.length, none⟩ = false := by
  obtain ⟨vals, k1, k2, k3, _⟩ := h
  have hvl : vals.length = pre.length + 1 := by have := k1.1; simpa using this
  obtain ⟨u, hu⟩ : ∃ u, vals[pre.length]? = some u := ⟨_, List.getElem?_eq_getElem (by omega)⟩
  have hr := k3 _ u now hu (by simp)
  have h4 := World.ownsRow.cells k1 (g := g) rfl _ u hu
  rw [addr_add, Nat.zero_add] at h4
  obtain ⟨A, c, rfl, _⟩ := hr.reads
  rcases k1.2 with ⟨h, _⟩ | ⟨g', cap', cur, h, _, hg', _⟩
  · cases h
  · injection h with e1 _ _
    injection e1 with e1
    injection e1 with e1 _ _
    subst e1
    exact ⟨A, c, h4, hr, (Array.getElem?_eq_some_iff.1 hg').1, (blk_facts hg').2 _⟩
theorem ROuts.block {X : World} {base g n cap : Nat} {out : List (List (List UInt8))} {op : Bool} (h : ROuts X base (.slice (some ⟨g, 0, none⟩) n cap) out op) : base ≤ g ∧ ∃ cur, X.heap[g]? = some (.cells cur 38 (0, 0)) := outs_own h.outs rfl
/-- A line is put behind the last section's others. -/
theorem ROuts.more {X X0 w1 : World} {base g cap : Nat} {v' ul : Value} {pre : List (List (List UInt8))} {now : List (List UInt8)} {l : List UInt8} (h : ROuts X base (.slice (some ⟨g, 0, none⟩) (pre.length + 1) cap) (pre ++ [now]) true)
    (hcell : X.cell? ⟨g, pre.length, none⟩ = some ul) (hX0 : Below X.heap.size X X0) (hown : TRow w1 base v' (now ++ [l])) (hv1 : v'.oneCell' = true) (hhop : Hop X0 w1 ul.ownBlock v'.ownBlock) :
    ROuts (w1.setCell ⟨g, pre.length, none⟩ v') base (.slice (some ⟨g, 0, none⟩) (pre.length + 1) cap) (pre ++ [now ++ [l]]) true ∧ w1.cell? ⟨g, pre.length, none⟩ = some ul ∧ w1.frozen? ⟨g, pre.length, none⟩ = false ∧ (base ≤ X.heap.size → Below base X (w1.setCell ⟨g, pre.length, none⟩ v')) := by
  obtain ⟨hbg, cg, hcg⟩ := h.block
  obtain ⟨vals, k1, k2, k3, k4⟩ := h
  have hln : (pre ++ [now]).length = pre.length + 1 := by simp
  rw [hln] at k1 k4
  have hvl : vals.length = pre.length + 1 := by have := k1.1; simpa using this
  obtain ⟨u0, hu0⟩ : ∃ u, vals[pre.length]? = some u := ⟨_, List.getElem?_eq_getElem (by omega)⟩
  have h4 := World.ownsRow.cells k1 (g := g) rfl _ u0 hu0
  rw [addr_add, Nat.zero_add] at h4
  obtain rfl : ul = u0 := by rw [hcell] at h4; injection h4
  have hul := k3 _ ul now hu0 (by simp)
  have hcg0 := (hX0.block g (Array.getElem?_eq_some_iff.1 hcg).1).trans hcg
  have hne : some g ≠ ul.ownBlock := fun e => by
    obtain ⟨_, c1, e1⟩ := hul.cells e.symm
    rw [hcg] at e1
    simp at e1
  have hcg1 := (hhop.1.block g (Array.getElem?_eq_some_iff.1 hcg0).1 hne).trans hcg0
  have k1' := (own_below k1 hX0).kept hhop.1 (.inr fun e => hne e)
  have off : ∀ u y, TRow w1 base u y → TRow (w1.setCell ⟨g, pre.length, none⟩ v') base u y := fun u y hu => ownsRow_setCell_other hu (fun e => by
    obtain ⟨_, c1, e1⟩ := hu.cells e
    rw [hcg1] at e1
    simp at e1) _
  refine ⟨⟨vals.set pre.length v', by rw [show (pre ++ [now ++ [l]]).length = pre.length + 1 by simp]; exact own_put k1' (by omega) v', fun u hu => ?_, fun j u y hu hy => ?_, fun _ j u ul' hj hu hul' k hk => ?_⟩, ?_, (blk_facts hcg1).2 _, fun hb => ?_⟩
  · rcases List.mem_or_eq_of_mem_set hu with hu | hu
    · exact k2 u hu
    · rw [hu]; exact hv1
  · rw [List.getElem?_set] at hu
    by_cases e : pre.length = j
    · subst e
      rw [if_pos rfl, if_pos (by omega)] at hu
      cases hu
      simp at hy
      subst hy
      exact off _ _ hown
    · rw [if_neg e] at hu
      have hj2 := (List.getElem?_eq_some_iff.1 hu).1
      have hj3 : j < pre.length := by omega
      rw [List.getElem?_append_left hj3] at hy
      have hrow := k3 j u y hu (by rw [List.getElem?_append_left hj3]; exact hy)
      have hdis := k4 rfl j u ul (by omega) hu (by rw [Nat.add_sub_cancel]; exact hu0)
      exact off _ _ (TRow.kept (SRow.grow hrow hX0) hhop.1 fun k hk e => hdis k e hk)
  · rw [show (pre ++ [now ++ [l]]).length = pre.length + 1 by simp] at hj hul'
    rw [List.getElem?_set, if_neg (by omega)] at hu
    rw [List.getElem?_set, if_pos (by omega), if_pos (by omega)] at hul'
    cases hul'
    have hdis := k4 rfl j u ul (by omega) hu (by rw [Nat.add_sub_cancel]; exact hu0)
    intro e
    rcases hhop.2 with h | ⟨g', h1, h⟩
    · exact hdis k (h.symm.trans hk) e
    · rw [h] at hk
      injection hk with hk
      obtain ⟨y, hy⟩ : ∃ y, (pre ++ [now])[j]? = some y := ⟨_, List.getElem?_eq_getElem (by rw [hln]; omega)⟩
      obtain ⟨_, cur, hc⟩ := (k3 j u y hu hy).cells e
      have := (Array.getElem?_eq_some_iff.1 hc).1
      have := hX0.size
      omega
  · exact (World.cell?_of_block (a := ⟨g, pre.length, none⟩) (show w1.heap[g]? = X.heap[g]? from hcg1.trans hcg.symm)).trans hcell
  · refine Below.setCell ((Below.mono (B := X.heap.size) hX0 hb).trans (hhop.below (Nat.le_trans hb hX0.size) fun k e => (hul.cells e).1)) (p := ⟨g, pre.length, none⟩) hbg _
/-- The last line goes on. -/
theorem ROuts.put {X w1 : World} {base g cap gl cl i : Nat} {y : List UInt8} {pre : List (List (List UInt8))} {now : List (List UInt8)} (h : ROuts X base (.slice (some ⟨g, 0, none⟩) (pre.length + 1) cap) (pre ++ [now]) true)
    (hcell : X.cell? ⟨g, pre.length, none⟩ = some (.slice (some ⟨gl, 0, none⟩) now.length cl)) (hb1 : Below X.heap.size X w1) (hi : i < now.length) :
    ROuts (w1.setCell ⟨gl, i, none⟩ (.string (bs y))) base (.slice (some ⟨g, 0, none⟩) (pre.length + 1) cap) (pre ++ [now.set i y]) true ∧ base ≤ gl := by
  obtain ⟨hbg, cg, hcg⟩ := h.block
  obtain ⟨vals, k1, k2, k3, k4⟩ := h
  have hln : (pre ++ [now]).length = pre.length + 1 := by simp
  rw [hln] at k1 k4
  have hvl : vals.length = pre.length + 1 := by have := k1.1; simpa using this
  obtain ⟨u0, hu0⟩ : ∃ u, vals[pre.length]? = some u := ⟨_, List.getElem?_eq_getElem (by omega)⟩
  have h4 := World.ownsRow.cells k1 (g := g) rfl _ u0 hu0
  rw [addr_add, Nat.zero_add] at h4
  obtain rfl : .slice (some ⟨gl, 0, none⟩) now.length cl = u0 := by rw [hcell] at h4; injection h4
  have hul := k3 _ _ now hu0 (by simp)
  have hgl := hul.cells (g := gl) rfl
  have hne : some g ≠ some gl := fun e => by
    injection e with e
    obtain ⟨_, c1, e1⟩ := hgl
    rw [← e, hcg] at e1
    simp at e1
  refine ⟨⟨vals, by rw [show (pre ++ [now.set i y]).length = pre.length + 1 by simp]; exact ownsRow_setCell_other (own_below k1 hb1) (fun e => hne (by simpa [Value.ownBlock] using e)) _, k2, fun j u z hu hz => ?_, fun _ j u ul' hj hu hul' k hk => ?_⟩, hgl.1⟩
  · by_cases e : pre.length = j
    · subst e
      rw [hu0] at hu
      cases hu
      simp at hz
      subst hz
      exact TRow.put (SRow.grow hul hb1) hi y
    · have hj2 := (List.getElem?_eq_some_iff.1 hu).1
      have hj3 : j < pre.length := by omega
      rw [List.getElem?_append_left hj3] at hz
      have hrow := k3 j u z hu (by rw [List.getElem?_append_left hj3]; exact hz)
      have hdis := k4 rfl j u _ (by omega) hu (by rw [Nat.add_sub_cancel]; exact hu0)
      exact ownsRow_setCell_other (SRow.grow hrow hb1) (fun e => hdis gl rfl e) _
  · rw [show (pre ++ [now.set i y]).length = pre.length + 1 by simp] at hj hul'
    exact k4 rfl j u ul' hj hu hul' k hk
end Go.Proofs.Ytbjhnfemlpbchaa
