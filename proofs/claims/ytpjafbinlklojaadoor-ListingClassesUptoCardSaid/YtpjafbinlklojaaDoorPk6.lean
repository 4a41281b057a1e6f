/- Joined texts: Parts, TellE, Few, BesA, BesB. -/
import Derived.Test.YtpjafbinlklojaaDoorPk4
import Derived.Test.YtpjafbinlklojaaDoorPk2
import Derived.Test.YtpjafbinlklojaaDoorPk1
import Derived.Test.YtpjafbinlklojaaDoorPk5
import Derived.Deep.RegionLaw
import Derived.Deep.DeepCutAuto
import Derived.Test.YtpjafbinlklojaaDoorPk3
/- Rows of structs as sources and as own rows: members, appended. -/
namespace Go.Proofs.YtpjafbinlklojaaDoor
open Go.RowKit Go.Deep

/-- All cells of things, one behind the other. -/
def Parts {Y : Type} (size : Nat) (R : List Value → Y → Prop) (ys : List Y) (news : List Value) : Prop :=
  news.length = ys.length * size ∧ ∀ (j : Nat) y, ys[j]? = some y → ∃ cs : List Value, R cs y ∧ cs.length = size ∧ ∀ (k : Nat) u, cs[k]? = some u → news[j * size + k]? = some u
section
variable {Y : Type} {size : Nat} {R : List Value → Y → Prop}
theorem Parts.nil : Parts size R [] [] := ⟨by simp, fun j y h => by simp at h⟩
theorem Parts.app {ys zs : List Y} {a b : List Value} (h : Parts size R ys a) (k : Parts size R zs b) : Parts size R (ys ++ zs) (a ++ b) := by
  refine ⟨by rw [List.length_append, List.length_append, h.1, k.1, Nat.add_mul], fun j y hy => ?_⟩
  by_cases hj : j < ys.length
  · rw [List.getElem?_append_left hj] at hy
    obtain ⟨cs, h1, h2, h3⟩ := h.2 j y hy
    refine ⟨cs, h1, h2, fun q u hu => ?_⟩
    have hq := h3 q u hu
    rw [List.getElem?_append_left (List.getElem?_eq_some_iff.1 hq).1]
    exact hq
  · rw [List.getElem?_append_right (by omega)] at hy
    obtain ⟨cs, h1, h2, h3⟩ := k.2 _ y hy
    refine ⟨cs, h1, h2, fun q u hu => ?_⟩
    have hq := h3 q u hu
    have e : j * size + q = ys.length * size + ((j - ys.length) * size + q) := by
      rw [← Nat.add_assoc, ← Nat.add_mul, Nat.add_sub_cancel' (by omega)]
    rw [e, List.getElem?_append_right (by rw [h.1]; omega), h.1, Nat.add_sub_cancel_left]
    exact hq
theorem flat_get {α : Type} {size : Nat} : ∀ (L : List (List α)), (∀ l ∈ L, l.length = size) → L.flatten.length = L.length * size ∧ ∀ (j : Nat) l, L[j]? = some l → ∀ (k : Nat) u, l[k]? = some u → L.flatten[j * size + k]? = some u
  | [], _ => ⟨by simp, fun j l h => by simp at h⟩
  | a :: L, h => by
    obtain ⟨h1, h2⟩ := flat_get L (fun l hl => h l (List.mem_cons_of_mem _ hl))
    have ha := h a (List.mem_cons_self ..)
    refine ⟨by rw [List.flatten_cons, List.length_append, h1, ha, List.length_cons, Nat.add_mul, Nat.one_mul, Nat.add_comm], fun j l hl k u hu => ?_⟩
    rw [List.flatten_cons]
    cases j with
    | zero =>
      obtain rfl : a = l := by simpa using hl
      rw [Nat.zero_mul, Nat.zero_add, List.getElem?_append_left (List.getElem?_eq_some_iff.1 hu).1]
      exact hu
    | succ j =>
      rw [show (j + 1) * size + k = size + (j * size + k) by rw [Nat.add_mul, Nat.one_mul]; omega, List.getElem?_append_right (by omega), ha, Nat.add_sub_cancel_left]
      exact h2 j l (by simpa using hl) k u hu
/-- What is read as a row of things, as a source. -/
theorem Sl.parts {P : Program} {t e : TypeId} {RW : World → List Value → Y → Prop} {w : World} {A : Option Addr} {c : Nat} {ys : List Y} (h : Sl size RW w A c ys) (h0 : 0 < size) (hk : P.underlying t = some (.slice e))
    (hone : ∀ cs y, RW w cs y → ∀ u ∈ cs, u.oneCell' = true) : ∃ news, Parts size (RW w) ys news ∧ ∀ x, Below w.heap.size w x → Src P size t (.slice A ys.length c) ys.length news x := by
  cases hy : ys with
  | nil =>
    refine ⟨[], Parts.nil, fun x _ => ?_⟩
    cases A with
    | none => exact Src.ofNil x hk c
    | some a => exact Src.ofSlice x hk a 0 c [] (by simp) (fun j u hu => by simp at hu) (fun u hu => by cases hu)
  | cons y0 rest =>
    rw [← hy]
    obtain ⟨g, o, rfl, hg, hc⟩ := h.2 (by rw [hy]; simp)
    have hf : ∀ j : Nat, ∃ cs : List Value, ∀ y, ys[j]? = some y → RW w cs y ∧ cs.length = size ∧ CellsAt w g (o + j * size) cs := fun j => by
      cases hj : ys[j]? with
      | none => exact ⟨[], fun y hy => by cases hy⟩
      | some y =>
        obtain ⟨cs, h1⟩ := hc j y hj
        exact ⟨cs, fun y' hy' => by cases hy'; exact h1⟩
    obtain ⟨f, hf⟩ := Classical.axiomOfChoice hf
    have hL : ∀ l ∈ (List.range ys.length).map f, l.length = size := fun l hl => by
      obtain ⟨j, hj, rfl⟩ := List.mem_map.1 hl
      have hj' := List.mem_range.1 hj
      exact (hf j _ (List.getElem?_eq_getElem hj')).2.1
    obtain ⟨hl, hat⟩ := flat_get _ hL
    rw [List.length_map, List.length_range] at hl
    have hm : ∀ j, j < ys.length → ((List.range ys.length).map f)[j]? = some (f j) := fun j hj => by
      rw [List.getElem?_map, List.getElem?_range hj]
      rfl
    refine ⟨((List.range ys.length).map f).flatten, ⟨hl, fun j y hy => ?_⟩, fun x hx => Src.ofSlice x hk ⟨g, o, none⟩ _ c _ hl (fun j u hu => ?_) (fun u hu => ?_)⟩
    · have hj := (List.getElem?_eq_some_iff.1 hy).1
      exact ⟨f j, (hf j y hy).1, (hf j y hy).2.1, fun k u hu => hat j _ (hm j hj) k u hu⟩
    · rw [addr_plus]
      have hj := (List.getElem?_eq_some_iff.1 hu).1
      rw [hl] at hj
      have hd : j / size < ys.length := Nat.div_lt_of_lt_mul (by rw [Nat.mul_comm]; exact hj)
      obtain ⟨_, h2, h3⟩ := hf (j / size) _ (List.getElem?_eq_getElem hd)
      have hk2 : j % size < (f (j / size)).length := by rw [h2]; exact Nat.mod_lt _ h0
      have hv := hat (j / size) _ (hm _ hd) (j % size) _ (List.getElem?_eq_getElem hk2)
      rw [show j / size * size + j % size = j by rw [Nat.mul_comm]; exact Nat.div_add_mod j size] at hv
      rw [hu] at hv
      obtain rfl := Option.some.inj hv
      have := (h3.grow hx hg) _ _ (List.getElem?_eq_getElem hk2)
      rw [show o + j / size * size + j % size = o + j by rw [Nat.add_assoc, Nat.mul_comm]; rw [Nat.div_add_mod j size]] at this
      exact this
    · obtain ⟨l, hl1, hl2⟩ := List.mem_flatten.1 hu
      obtain ⟨j, hj, rfl⟩ := List.mem_map.1 hl1
      have hj' := List.mem_range.1 hj
      exact hone _ _ (hf j _ (List.getElem?_eq_getElem hj')).1 u hl2
/-- An own row of things. -/
def PRow (e : TypeId) (size : Nat) (R : List Value → Y → Prop) (w : World) (base : Nat) (v : Value) (ys : List Y) : Prop := ∃ news, w.ownsRow base e size v ys.length news ∧ Parts size R ys news
/-- Where things of a block stand. -/
def PAt (e : TypeId) (size : Nat) (R : List Value → Y → Prop) (w : World) (A : Option Addr) (ys : List Y) : Prop :=
  0 < ys.length → ∃ g o C, A = some ⟨g, o, none⟩ ∧ w.heap[g]? = some (.cells C e (0, 0)) ∧ ∀ (j : Nat) y, ys[j]? = some y → ∃ cs : List Value, R cs y ∧ cs.length = size ∧ ∀ (k : Nat) u, cs[k]? = some u → C[o + j * size + k]? = some u
theorem PRow.grow {e : TypeId} {w w1 : World} {base : Nat} {v : Value} {ys : List Y} (h : PRow e size R w base v ys) (k : Below w.heap.size w w1) : PRow e size R w1 base v ys := by
  obtain ⟨news, h1, h2⟩ := h
  exact ⟨news, own_below h1 k, h2⟩
theorem PRow.base_le {e : TypeId} {w : World} {base : Nat} {v : Value} {ys : List Y} (h : PRow e size R w base v ys) {k : Nat} (hk : v.ownBlock = some k) : base ≤ k := by
  obtain ⟨news, h1, _⟩ := h
  exact (World.ownsRow.lt h1 k hk).1
theorem prow_fresh {e : TypeId} {x : World} {B base : Nat} (h : x.heap[B]? = some (.cells #[] e (0, 0))) (hb : base ≤ B) : PRow e size R x base (.slice (some ⟨B, 0, none⟩) 0 0) [] :=
  ⟨[], ⟨by simp, .inr ⟨B, 0, #[], rfl, hb, h, Nat.le_refl _, by unfold maxLen; omega, by simp, by simp⟩⟩, Parts.nil⟩
theorem PRow.reads {e : TypeId} {w : World} {base : Nat} {v : Value} {ys : List Y} (h : PRow e size R w base v ys) : ∃ A c, v = .slice A ys.length c ∧ PAt e size R w A ys := by
  obtain ⟨news, ⟨hl, ho⟩, hp⟩ := h
  rcases ho with ⟨rfl, hn⟩ | ⟨g, cap, cur, rfl, _, hg, _, _, _, ht⟩
  · exact ⟨none, 0, by rw [hn], fun h => by omega⟩
  · refine ⟨_, _, rfl, fun _ => ⟨g, 0, cur, rfl, hg, fun j y hy => ?_⟩⟩
    obtain ⟨cs, h1, h2, h3⟩ := hp.2 j y hy
    refine ⟨cs, h1, h2, fun k u hu => ?_⟩
    have h4 := h3 k u hu
    rw [← ht, List.getElem?_take] at h4
    split at h4
    · rw [Nat.zero_add, ← Array.getElem?_toList]
      exact h4
    · cases h4
theorem PAt.at_ {e : TypeId} {w : World} {A : Option Addr} {ys : List Y} (h : PAt e size R w A ys) {i : Nat} (hi : i < ys.length) :
    ∃ g o C y cs, A = some ⟨g, o, none⟩ ∧ w.heap[g]? = some (.cells C e (0, 0)) ∧ ys[i]? = some y ∧ R cs y ∧ cs.length = size ∧ (∀ (w' : World), w'.heap[g]? = some (.cells C e (0, 0)) → CellsAt w' g (o + i * size) cs) := by
  obtain ⟨g, o, C, hA, hg, hc⟩ := h (by omega)
  obtain ⟨cs, h1, h2, h3⟩ := hc i _ (List.getElem?_eq_getElem hi)
  refine ⟨g, o, C, _, cs, hA, hg, List.getElem?_eq_getElem hi, h1, h2, fun w' hw' k u hu => ?_⟩
  rw [Lib.cell_of_heap hw']
  exact h3 k u hu
end
theorem cellsAt_block {w : World} {g : Nat} {C : Array Value} {t : TypeId} {fr : Nat × Nat} (hg : w.heap[g]? = some (.cells C t fr)) (o n : Nat) : CellsAt w g o ((C.toList.drop o).take n) := fun k u hu => by
  rw [Lib.cell_of_heap hg, ← Array.getElem?_toList]
  rw [List.getElem?_take] at hu
  split at hu
  · rw [List.getElem?_drop] at hu
    exact hu
  · cases hu
/-- A struct read: all its cells at once. -/
theorem run_load_cells {P : Program} {o : Oper} {a : Act} {w : World} (ty : TypeId) (x : Operand) (ho : o.op = .load ty x) (g off : Nat) (hx : a.eval x = .pointer (some ⟨g, off, none⟩)) (cs : List Value) (hc : CellsAt w g off cs) (d : TypeDesc)
    (hu : P.underlying ty = some d) (hd : (match d with | .struct _ | .array _ _ => true | _ => false) = true) (hi : (P.info? ty).map (·.size) = some cs.length) : (execOp a.eval o).run P w = .ok (.value (.agg cs.toArray)) w := by
  have hl : (loadCells ⟨g, off, none⟩ cs.length).run P w = .ok cs.toArray w :=
    run_loadCells_list (P := P) w ⟨g, off, none⟩ cs (fun j v hv => by rw [addr_plus]; exact hc j v hv)
  have hv : (loadVar ty ⟨g, off, none⟩).run P w = .ok (.agg cs.toArray) w := by
    cases hq : P.info? ty with
    | none => simp [hq] at hi
    | some i =>
      have hs : i.size = cs.length := by simpa [hq] using hi
      have hagg : (isAgg ty).run P w = .ok true w := by
        unfold isAgg
        rw [Sem.run_bind, run_underlying hu w]
        cases d <;> simp_all
      simp [loadVar, Sem.run_bind, hagg, sizeOf, typeInfo, hq, hs, hl]
  unfold execOp
  simp only [ho, hx, Instr.loadAt, Instr.sureAddr, Sem.run_bind, Sem.run_pure, Result.andThen_ok, hv]
theorem wpList_load_cells {P : Program} {ops : Array Oper} {rest : List Oper} {o : Oper} {a : Act} {w : World} {Q : Exit → Act → World → Prop} (hgd : o.guard = none) (ty : TypeId) (x : Operand) (ho : o.op = .load ty x)
    (g off : Nat) (hx : a.eval x = .pointer (some ⟨g, off, none⟩)) (cs : List Value) (hc : CellsAt w g off cs) (d : TypeDesc)
    (hu : P.underlying ty = some d) (hd : (match d with | .struct _ | .array _ _ => true | _ => false) = true) (hi : (P.info? ty).map (·.size) = some cs.length)
    (h : wpList P ops Q rest (a.put o.dst (.agg cs.toArray)) w) : wpList P ops Q (o :: rest) a w :=
  wpList_plain hgd fun _ hK => by
    unfold Oper.wp
    rw [run_load_cells ty x ho g off hx cs hc d hu hd hi]
    exact hK _ _ h
/-- The same among operations that come in any order. -/
theorem wpLex_load {P : Program} {ops : Array Oper} {Q : Exit → Act → World → Prop} {w0 : World} {tail rest : List Oper} {o : Oper} {a : Act} {E : Env} (hw : Region.wanted o (yielded ops a.tmps) = true) (ty : TypeId) (x : Operand) (ho : o.op = .load ty x)
    (g off : Nat) (hx : a.eval x = .pointer (some ⟨g, off, none⟩)) (cs : List Value) (hc : CellsAt w0 g off cs) (hg : g < w0.heap.size) (d : TypeDesc)
    (hu : P.underlying ty = some d) (hd : (match d with | .struct _ | .array _ _ => true | _ => false) = true) (hi : (P.info? ty).map (·.size) = some cs.length)
    (h : wpLex P ops Q w0 tail rest E (a.put o.dst (.agg cs.toArray))) : wpLex P ops Q w0 tail (o :: rest) E a :=
  fun _ => ⟨.inl (.agg cs.toArray), .inl ⟨hw, fun y hy => by
    unfold Oper.quietAt
    rw [run_load_cells ty x ho g off hx cs (hc.grow hy.below hg) d hu hd hi]
    exact ⟨rfl, rfl⟩⟩, fun _ _ => h⟩
theorem setRow_alloc (w : World) (old cells : Array Value) (t : TypeId) : (w.alloc (.cells old t)).setRow w.heap.size cells = w.alloc (.cells cells t) := by
  have h := heap_alloc_new w (.cells old t)
  have hlt : w.heap.size < (w.alloc (.cells old t)).heap.size := (Array.getElem?_eq_some_iff.1 h).1
  have e : ∀ i : Nat, ((w.alloc (.cells old t)).setRow w.heap.size cells).heap[i]? = (w.alloc (.cells cells t)).heap[i]? := fun i => by
    by_cases hi : i = w.heap.size
    · subst hi
      rw [setRow_heap _ _ _ cells _ _ h, heap_alloc_new]
    · rw [setRow_other _ _ _ _ hi]
      by_cases h2 : i < w.heap.size
      · rw [heap_alloc_old _ _ h2, heap_alloc_old _ _ h2]
      · have s1 : (w.alloc (.cells old t)).heap.size = w.heap.size + 1 := by show (w.heap.push _).size = _; simp
        have s2 : (w.alloc (.cells cells t)).heap.size = w.heap.size + 1 := by show (w.heap.push _).size = _; simp
        rw [Array.getElem?_eq_none (by omega), Array.getElem?_eq_none (by omega)]
  have e2 : ((w.alloc (.cells old t)).setRow w.heap.size cells).heap = (w.alloc (.cells cells t)).heap := Array.ext_getElem? e
  cases w
  simp only [World.alloc, World.setRow] at e2 ⊢
  simp only [e2]
/-- A struct stored into its fresh variable. -/
theorem wpList_store_fresh {P : Program} {ops : Array Oper} {rest : List Oper} {o : Oper} {a : Act} {Q : Exit → Act → World → Prop} (hgd : o.guard = none) (ty : TypeId) (x y : Operand) (ho : o.op = .store ty x y)
    (w : World) (old : Array Value) (cs : List Value) (t : TypeId) (hx : a.eval x = .pointer (some ⟨w.heap.size, 0, none⟩)) (hy : a.eval y = .agg cs.toArray) (hi : (P.info? ty).map (·.size) = some cs.length)
    (hold : old.size = cs.length) (h1 : ∀ u ∈ cs, u.oneCell' = true)
    (h : wpList P ops Q rest (a.put o.dst undef) (w.alloc (.cells cs.toArray t))) : wpList P ops Q (o :: rest) a (w.alloc (.cells old t)) :=
  wpList_store_row hgd ty x y ho w.heap.size cs.toArray hx hy t old (heap_alloc_new w (.cells old t)) (by rw [hi, List.size_toArray]) (by rw [hold, List.size_toArray]) (Array.all_eq_true_iff_forall_mem.2 fun u hu => h1 u (by simpa using hu)) (by rw [setRow_alloc]; exact h)
theorem infoMbr0 : (Tryd.prog.info? 59).map (fun i => (i.zero.map (fun z => z.cells.size), i.size, i.bytes)) = some (some 21, 21, 328) := by kernel_rfl
theorem infoMbr : ∃ i0, Tryd.prog.info? 59 = some i0 ∧ ∃ z, i0.zero = some z ∧ i0.size = 21 ∧ i0.bytes = 328 ∧ z.cells.size = 21 := by
  have h := infoMbr0
  cases hi : Tryd.prog.info? 59 with
  | none => rw [hi] at h; cases h
  | some i0 =>
    rw [hi] at h
    simp only [Option.map_some, Option.some.injEq, Prod.mk.injEq] at h
    obtain ⟨h1, h2, h3⟩ := h
    cases hz : i0.zero with
    | none => rw [hz] at h1; cases h1
    | some z =>
      rw [hz] at h1
      exact ⟨i0, rfl, z, hz, h2, h3, by simpa using h1⟩
/-- At a step of a region that draws its order: members onto members. -/
theorem step_appM {R : List Value → Mbr → Prop} {w : World} {ops : Array Oper} {o : Oper} {a : Act} {K : Act → World → Prop} {Q : Exit → Act → World → Prop} {E : Prop} (hgd : o.guard = none) (s x : Operand)
    (ho : o.op = .call { callee := .builtin .append, args := #[s, x], argTypes := #[23, 23] })
    (base : Nat) (v : Value) (xs : List Mbr) (hv : a.eval s = v) (hown : PRow 59 21 R w base v xs) (X : Value) (ys : List Mbr) (hX : a.eval x = X)
    (hs : ∃ news, Parts 21 R ys news ∧ Src Tryd.prog 21 23 X ys.length news w) (hn : xs.length + ys.length ≤ 400000000) (hbase : base ≤ w.heap.size)
    (h : ∀ v' w', PRow 59 21 R w' base v' (xs ++ ys) → Hop w w' v.ownBlock v'.ownBlock → K (a.put o.dst v') w') :
    if Region.wanted o (yielded ops a.tmps) = true then Oper.wp Tryd.prog o a w K Q else E := by
  obtain ⟨i0, hi, z, hz, hz0, hz1, hz2⟩ := infoMbr
  obtain ⟨ns, hown, hp⟩ := hown
  obtain ⟨ms, hq, hs⟩ := hs
  refine step_append_row hgd s x 23 23 ho base 59 i0 z 21 328 Tryd.underlying23 hi hz hz0 hz1 hz2 v _ _ hv hown X ys.length ms hX (fun v' w' h1 h2 => h v' w' ⟨ns ++ ms, by rw [List.length_append]; exact h1, hp.app hq⟩ h2) hs ?_ ?_ hbase
  · unfold maxLen; omega
  · omega
end Go.Proofs.YtpjafbinlklojaaDoor

/- The walk of layer 20's list: a class told in whole. Printed by mk_told.py. -/
namespace Go.Proofs.YtpjafbinlklojaaDoor
open Go.RowKit Go.Deep

theorem mbr_one {w : World} (cs : List Value) (y : Mbr) (h : Mbr.rd w cs y) : ∀ u ∈ cs, u.oneCell' = true := by
  obtain ⟨A0, c0, A1, c1, A2, c2, A3, c3, A4, c4, A5, c5, rfl, _⟩ := Mbr.leafs h
  intro u hu
  simp only [List.mem_cons, List.not_mem_nil, or_false] at hu
  rcases hu with rfl | rfl | rfl | rfl | rfl | rfl | rfl | rfl | rfl | rfl | rfl | rfl | rfl | rfl | rfl | rfl | rfl | rfl | rfl | rfl | rfl <;> rfl
theorem told_fresh {w : World} {g base : Nat} (h : w.heap[g]? = some (.cells #[.slice none 0 0, .slice none 0 0] 51 (0, 0))) (hb : base ≤ g) : TBox w base g ([], []) :=
  ⟨_, _, h, hb, World.ownsRow_nil w base 3 1, World.ownsRow_nil w base 9 1⟩
theorem cls_sizes (y : Cls) : (tlCls y).size = 5 + (tlTexts [y.this, y.super]).size + (tlTexts y.faces).size + (tlAll tlMbr (y.fields ++ y.methods)).size + (tlAtr y.attrs).size := by
  simp only [tlCls, Tl.size_add, size_ints, List.length_cons, List.length_nil]
theorem size_all_len {α : Type} (f : α → Tl) (h : ∀ x, 1 ≤ (f x).size) : ∀ xs : List α, xs.length ≤ (tlAll f xs).size
  | [] => Nat.zero_le _
  | x :: xs => by
    have := size_all_len f h xs
    have := h x
    simp only [tlAll, Tl.size_add, List.length_cons]
    omega
theorem mbr_sizes (x : Mbr) : (tlMbr x).size = 1 + (tlTexts [x.name, x.desc]).size + (tlAtr x.attrs).size := by
  simp only [tlMbr, Tl.size_add, size_ints, List.length_cons, List.length_nil]
theorem mbrs_few (y : Cls) : y.fields.length + y.methods.length ≤ (tlCls y).size := by
  have h1 := size_all_len tlMbr (fun x => by rw [mbr_sizes]; omega) (y.fields ++ y.methods)
  rw [cls_sizes]
  rw [List.length_append] at h1
  omega
theorem texts_len (ss : List (List UInt8)) : ss.length + 1 ≤ (tlTexts ss).size := by
  have h := len_size (tlTexts ss)
  have e : (tlTexts ss).1.length + (tlTexts ss).2.length = ss.length + 1 := by simp [tlTexts]; omega
  omega
/-- Ahead of a member's attributes there is room. -/
theorem mbr_room (uv : Tl) (y : Cls) (L : List Mbr) (hL : L = y.fields ++ y.methods) (e : uv = (((tlInts [y.minor, y.major, y.flags, (y.fields.length : Int), (y.methods.length : Int)]).add (tlTexts [y.this, y.super])).add (tlTexts y.faces)))
    (h : (tlCls y).size ≤ 100000000) (i : Nat) (x : Mbr) (hx : L[i]? = some x) :
    (uv.add (tlAll tlMbr (L.take i))).1.length + (uv.add (tlAll tlMbr (L.take i))).2.length + (tlMbr x).size ≤ 100000000 := by
  have h1 := len_size (tlAll tlMbr (L.take i))
  have h2 : (tlAll tlMbr (L.take i)).size + (tlMbr x).size ≤ (tlAll tlMbr L).size := by
    have h3 := size_take tlMbr L (i + 1)
    rw [tlAll_snoc tlMbr hx, Tl.size_add] at h3
    exact h3
  have h4 := len_size (tlInts [y.minor, y.major, y.flags, (y.fields.length : Int), (y.methods.length : Int)])
  have h5 := len_size (tlTexts [y.this, y.super])
  have h6 := len_size (tlTexts y.faces)
  rw [size_ints] at h4
  simp only [List.length_cons, List.length_nil] at h4
  rw [cls_sizes, ← hL] at h
  rw [len_add, e, len_add, len_add]
  omega
theorem cls_room (uv : Tl) (y : Cls) (L : List Mbr) (hL : L = y.fields ++ y.methods) (e : uv = (((tlInts [y.minor, y.major, y.flags, (y.fields.length : Int), (y.methods.length : Int)]).add (tlTexts [y.this, y.super])).add (tlTexts y.faces)))
    (h : (tlCls y).size ≤ 100000000) : (uv.add (tlAll tlMbr L)).1.length + (uv.add (tlAll tlMbr L)).2.length + (tlAtr y.attrs).size ≤ 100000000 := by
  have h1 := len_size (tlAll tlMbr L)
  have h4 := len_size (tlInts [y.minor, y.major, y.flags, (y.fields.length : Int), (y.methods.length : Int)])
  have h5 := len_size (tlTexts [y.this, y.super])
  have h6 := len_size (tlTexts y.faces)
  rw [size_ints] at h4
  simp only [List.length_cons, List.length_nil] at h4
  rw [cls_sizes, ← hL] at h
  rw [len_add, e, len_add, len_add]
  omega
/-- What stands ahead of a member's attributes. -/
theorem mbr_head (TA : Tl) (x : Mbr) : ((TA.add (tlInts [x.flags])).add (tlTexts [x.name, x.desc])).1.length + ((TA.add (tlInts [x.flags])).add (tlTexts [x.name, x.desc])).2.length + (tlAtr x.attrs).size ≤ TA.1.length + TA.2.length + (tlMbr x).size := by
  have h5 := len_size (tlTexts [x.name, x.desc])
  rw [len_add, len_add, mbr_sizes]
  have : (tlInts [x.flags]).1.length + (tlInts [x.flags]).2.length = 1 := rfl
  omega

set_option maxRecDepth 100000 in
set_option maxHeartbeats 8000000 in
theorem told_any (w : World) (y : Cls) (cs : List Value) (hr : Cls.rd w cs y) (hg : y.good) (hsz : (tlCls y).size ≤ 100000000) :
    Calls Tryd.prog 12 #[.agg cs.toArray] w fun e w' => ∃ g, e = .returned (.pointer (some ⟨g, 0, none⟩)) ∧ TBox w' w.heap.size g (tlCls y) ∧ Below w.heap.size w w' := by
  have hatr : Atr.rd w ((cs.drop 8).take 18) y.attrs := hr.2.2.2.2.2.2.2.2.2
  have HATR := Lib.hid hatr
  obtain ⟨B5, d5, B6, d6, B7, d7, C0, e0, C1, e1, C2, e2, C3, e3, C4, e4, C5, e5, rfl, ⟨s5, _⟩, ⟨s6, _⟩, ⟨s7, _⟩, _⟩ := Cls.leafs hr
  have HF5 := Lib.hid s5
  have HM6 := Lib.hid s6
  have HM7 := Lib.hid s7
  have hfew := mbrs_few y
  have k1 := (Below.refl w.heap.size w).alloc (Nat.le_refl _) (.cells #[.int .i64 y.minor, .int .i64 y.major, .int .i64 y.flags, .string (bs y.this), .string (bs y.super), .slice B5 y.faces.length d5, .slice B6 y.fields.length d6, .slice B7 y.methods.length d7, .int .i64 y.attrs.has, .int .i64 y.attrs.code.stack, .int .i64 y.attrs.code.locals, .slice C0 y.attrs.code.ops.length e0, .slice C1 y.attrs.code.handlers.length e1, .int .i64 y.attrs.code.has, .slice C2 y.attrs.code.lines.length e2, .slice C3 y.attrs.code.slots.length e3, .int .i64 y.attrs.value.tag, .string (bs y.attrs.value.text), .int .u64 y.attrs.value.bits, .string (bs y.attrs.value.cls), .string (bs y.attrs.value.name), .string (bs y.attrs.value.desc), .slice C4 y.attrs.throws.length e4, .slice C5 y.attrs.inners.length e5, .string (bs y.attrs.signature), .string (bs y.attrs.source)] 37)
  have HX := Lib.hid (heap_alloc_new w (.cells #[.int .i64 y.minor, .int .i64 y.major, .int .i64 y.flags, .string (bs y.this), .string (bs y.super), .slice B5 y.faces.length d5, .slice B6 y.fields.length d6, .slice B7 y.methods.length d7, .int .i64 y.attrs.has, .int .i64 y.attrs.code.stack, .int .i64 y.attrs.code.locals, .slice C0 y.attrs.code.ops.length e0, .slice C1 y.attrs.code.handlers.length e1, .int .i64 y.attrs.code.has, .slice C2 y.attrs.code.lines.length e2, .slice C3 y.attrs.code.slots.length e3, .int .i64 y.attrs.value.tag, .string (bs y.attrs.value.text), .int .u64 y.attrs.value.bits, .string (bs y.attrs.value.cls), .string (bs y.attrs.value.name), .string (bs y.attrs.value.desc), .slice C4 y.attrs.throws.length e4, .slice C5 y.attrs.inners.length e5, .string (bs y.attrs.signature), .string (bs y.attrs.source)] 37))
  have K1 := Lib.hid k1
  have hz1 := k1.size
  have hz1b : w.heap.size < (w.alloc (.cells #[.int .i64 y.minor, .int .i64 y.major, .int .i64 y.flags, .string (bs y.this), .string (bs y.super), .slice B5 y.faces.length d5, .slice B6 y.fields.length d6, .slice B7 y.methods.length d7, .int .i64 y.attrs.has, .int .i64 y.attrs.code.stack, .int .i64 y.attrs.code.locals, .slice C0 y.attrs.code.ops.length e0, .slice C1 y.attrs.code.handlers.length e1, .int .i64 y.attrs.code.has, .slice C2 y.attrs.code.lines.length e2, .slice C3 y.attrs.code.slots.length e3, .int .i64 y.attrs.value.tag, .string (bs y.attrs.value.text), .int .u64 y.attrs.value.bits, .string (bs y.attrs.value.cls), .string (bs y.attrs.value.name), .string (bs y.attrs.value.desc), .slice C4 y.attrs.throws.length e4, .slice C5 y.attrs.inners.length e5, .string (bs y.attrs.signature), .string (bs y.attrs.source)] 37)).heap.size := (Array.getElem?_eq_some_iff.1 HX.out).1
  clear k1 hatr s5 s6 s7 hr
  go_enter Tryd.func12, Tryd.ntmps12
  go_upto_region 1 with fail
  generalize w.alloc (.cells #[.int .i64 y.minor, .int .i64 y.major, .int .i64 y.flags, .string (bs y.this), .string (bs y.super), .slice B5 y.faces.length d5, .slice B6 y.fields.length d6, .slice B7 y.methods.length d7, .int .i64 y.attrs.has, .int .i64 y.attrs.code.stack, .int .i64 y.attrs.code.locals, .slice C0 y.attrs.code.ops.length e0, .slice C1 y.attrs.code.handlers.length e1, .int .i64 y.attrs.code.has, .slice C2 y.attrs.code.lines.length e2, .slice C3 y.attrs.code.slots.length e3, .int .i64 y.attrs.value.tag, .string (bs y.attrs.value.text), .int .u64 y.attrs.value.bits, .string (bs y.attrs.value.cls), .string (bs y.attrs.value.name), .string (bs y.attrs.value.desc), .slice C4 y.attrs.throws.length e4, .slice C5 y.attrs.inners.length e5, .string (bs y.attrs.signature), .string (bs y.attrs.source)] 37) = W at HX K1 hz1 hz1b ⊢
  have k2 := (Below.refl W.heap.size W).alloc (Nat.le_refl _) (.cells #[.slice none 0 0, .slice none 0 0] 51)
  have HT := Lib.hid (told_fresh (base := w.heap.size) (heap_alloc_new W (.cells #[.slice none 0 0, .slice none 0 0] 51)) hz1)
  have K2 := Lib.hid (K1.out.trans (k2.mono hz1))
  have S2 := Lib.hid (still_below k2)
  have HX2 := Lib.hid ((k2.block w.heap.size hz1b).trans HX.out)
  have hz2 := Nat.le_trans hz1 k2.size
  clear k2 K1 HX
  go_upto_region 2 with fail
  generalize hW2 : W.alloc (.cells #[.slice none 0 0, .slice none 0 0] 51) = W2 at HT K2 S2 HX2 hz2 ⊢
  generalize W.heap.size = g at HT ⊢
  clear hW2 S2
  have f0 : W2.cell? ⟨w.heap.size, 0, none⟩ = some (.int .i64 y.minor) := by rw [Lib.cell_of_heap HX2.out]; rfl
  have f1 : W2.cell? ⟨w.heap.size, 1, none⟩ = some (.int .i64 y.major) := by rw [Lib.cell_of_heap HX2.out]; rfl
  have f2 : W2.cell? ⟨w.heap.size, 2, none⟩ = some (.int .i64 y.flags) := by rw [Lib.cell_of_heap HX2.out]; rfl
  have f6 : W2.cell? ⟨w.heap.size, 6, none⟩ = some (.slice B6 y.fields.length d6) := by rw [Lib.cell_of_heap HX2.out]; rfl
  have f7 : W2.cell? ⟨w.heap.size, 7, none⟩ = some (.slice B7 y.methods.length d7) := by rw [Lib.cell_of_heap HX2.out]; rfl
  have hq := (Array.getElem?_eq_some_iff.1 HX2.out).1
  have k3 := (Below.refl W2.heap.size W2).alloc (Nat.le_refl _) (.cells #[.int .i64 y.minor, .int .i64 y.major, .int .i64 y.flags, .int .i64 (y.fields.length : Int), .int .i64 (y.methods.length : Int)] 3)
  have CL1 := Lib.hid (ints_tell w.heap.size g 5 (some ⟨W2.heap.size, 0, none⟩) ([], []) [y.minor, y.major, y.flags, (y.fields.length : Int), (y.methods.length : Int)] _ (HT.out.grow k3) (ints_new (heap_alloc_new W2 (.cells #[.int .i64 y.minor, .int .i64 y.major, .int .i64 y.flags, .int .i64 (y.fields.length : Int), .int .i64 (y.methods.length : Int)] 3)) [y.minor, y.major, y.flags, (y.fields.length : Int), (y.methods.length : Int)] rfl) (by simp) (Nat.le_trans hz2 k3.size))
  have K3 := Lib.hid (k3.mono hz2)
  have S3 := Lib.hid (still_below k3)
  clear k3
  go_upto_region 3 with fail
  refine CL1.out.mono ?_
  rintro e x1 ⟨rfl, t1, b1, s1⟩
  rw [Tl.nil_add] at t1
  have HT1 := Lib.hid t1
  have K4 := Lib.hid (K2.out.trans (K3.out.trans b1))
  have HX3 := Lib.hid ((S3.out.trans s1) _ _ _ _ HX2.out (by decide) (by decide) (by decide))
  have hz3 := Nat.le_trans hz2 (Nat.le_trans K3.out.size b1.size)
  clear t1 b1 s1 CL1 K2 K3 S3 HX2 HT f0 f1 f2 f6 f7 hq hz1 hz1b hz2
  have f3 : x1.cell? ⟨w.heap.size, 3, none⟩ = some (.string (bs y.this)) := by rw [Lib.cell_of_heap HX3.out]; rfl
  have f4 : x1.cell? ⟨w.heap.size, 4, none⟩ = some (.string (bs y.super)) := by rw [Lib.cell_of_heap HX3.out]; rfl
  have hq := (Array.getElem?_eq_some_iff.1 HX3.out).1
  have k3 := (Below.refl x1.heap.size x1).alloc (Nat.le_refl _) (.cells #[.string (bs y.this), .string (bs y.super)] 9)
  have CL2 := Lib.hid (texts_tell w.heap.size g 2 (some ⟨x1.heap.size, 0, none⟩) _ [y.this, y.super] _ (HT1.out.grow k3) (txt_new (heap_alloc_new x1 (.cells #[.string (bs y.this), .string (bs y.super)] 9)) [y.this, y.super] rfl) (fun _ => txtAt_new (heap_alloc_new x1 (.cells #[.string (bs y.this), .string (bs y.super)] 9))) (by simp [tlInts]) (by simp [tlInts]) (Nat.le_trans hz3 k3.size))
  have K3 := Lib.hid (k3.mono hz3)
  have S3 := Lib.hid (still_below k3)
  clear k3
  go_upto_region 3 with fail
  go_upto_region 4 with fail
  refine CL2.out.mono ?_
  rintro e x2 ⟨rfl, t2, b2, s2⟩
  have HT2 := Lib.hid t2
  have K5 := Lib.hid (K4.out.trans (K3.out.trans b2))
  have HX4 := Lib.hid ((S3.out.trans s2) _ _ _ _ HX3.out (by decide) (by decide) (by decide))
  have hz4 := Nat.le_trans hz3 (Nat.le_trans K3.out.size b2.size)
  clear t2 b2 s2 CL2 K4 K3 S3 HX3 HT1 f3 f4 hq hz3
  have f5 : x2.cell? ⟨w.heap.size, 5, none⟩ = some (.slice B5 y.faces.length d5) := by rw [Lib.cell_of_heap HX4.out]; rfl
  have hq := (Array.getElem?_eq_some_iff.1 HX4.out).1
  have hsz2 := cls_sizes y
  have hfa := texts_len y.faces
  have n1 : ((tlInts [y.minor, y.major, y.flags, (y.fields.length : Int), (y.methods.length : Int)]).add (tlTexts [y.this, y.super])).1.length = 6 ∧ ((tlInts [y.minor, y.major, y.flags, (y.fields.length : Int), (y.methods.length : Int)]).add (tlTexts [y.this, y.super])).2.length = 2 := by simp [Tl.add, tlInts, tlTexts]
  have CL3 := Lib.hid (texts_tell w.heap.size g d5 B5 _ y.faces x2 HT2.out (HF5.out.grow K5.out) (fun hp g' o' e => by obtain ⟨g, o, eq, hgl, _⟩ := HF5.out.2 hp; rw [eq] at e; cases e; exact .inl hgl) (by rw [n1.1]; omega) (by rw [n1.2]; omega) hz4)
  go_upto_region 4 with fail
  go_upto_region 5 with fail
  refine CL3.out.mono ?_
  rintro e x3 ⟨rfl, t3, b3, s3⟩
  obtain ⟨UV, hUV⟩ : ∃ z, z = ((tlInts [y.minor, y.major, y.flags, (y.fields.length : Int), (y.methods.length : Int)]).add (tlTexts [y.this, y.super])).add (tlTexts y.faces) := ⟨_, rfl⟩
  obtain ⟨L, hL⟩ : ∃ z, z = y.fields ++ y.methods := ⟨_, rfl⟩
  rw [← hUV] at t3
  have HT3 := Lib.hid t3
  have K6 := Lib.hid (K5.out.trans b3)
  have HX5 := Lib.hid (s3 _ _ _ _ HX4.out (by decide) (by decide) (by decide))
  have hz5 := Nat.le_trans hz4 b3.size
  have HUV := Lib.hid hUV
  have HL := Lib.hid hL
  have HR := Lib.hid (fun (i : Nat) (x : Mbr) (hx : L[i]? = some x) => mbr_room UV y L hL hUV hsz i x hx)
  have HR2 := Lib.hid (cls_room UV y L hL hUV hsz)
  have HLg := Lib.hid (show L.length ≤ 100000000 from by rw [hL, List.length_append]; omega)
  have HLG := Lib.hid (show ∀ x ∈ L, x.good from fun x hx => by rw [hL] at hx; rcases List.mem_append.1 hx with h | h; exact hg.2.2.2.2.2.2.1.2 x h; exact hg.2.2.2.2.2.2.2.1.2 x h)
  have HLA := Lib.hid (show [] ++ y.fields ++ y.methods = L by rw [hL, List.nil_append])
  clear t3 b3 s3 CL3 K5 HX4 HT2 f5 hq hz4 n1 hsz2 hfa hUV hL
  have HS6 := Lib.hid (HM6.out.parts (by decide) Tryd.underlying23 mbr_one)
  have HS7 := Lib.hid (HM7.out.parts (by decide) Tryd.underlying23 mbr_one)
  have f6 : x3.cell? ⟨w.heap.size, 6, none⟩ = some (.slice B6 y.fields.length d6) := by rw [Lib.cell_of_heap HX5.out]; rfl
  have f7 : x3.cell? ⟨w.heap.size, 7, none⟩ = some (.slice B7 y.methods.length d7) := by rw [Lib.cell_of_heap HX5.out]; rfl
  have hq := (Array.getElem?_eq_some_iff.1 HX5.out).1
  have hL2 : y.fields.length + y.methods.length ≤ 100000000 := by omega
  have hL1 : y.fields.length ≤ 100000000 := by omega
  have HM3 := Lib.hid (Below.refl x3.heap.size x3)
  go_upto_region 5 with fail
  go_cut [40, 41, 42] (fun s40 s41 s42 wx => ∃ A2 c2, s40 = .slice A2 L.length c2 ∧ s41 = .int .i64 (L.length : Int) ∧ s42 = .int .i64 0 ∧ PAt 59 21 (Mbr.rd w) wx A2 L ∧ Below x3.heap.size x3 wx)
  case first =>
    as_aux_lemma =>
    go_region_law ((first
      | (refine step_appM (R := Mbr.rd w) rfl _ _ rfl x3.heap.size (.slice (some ⟨_, 0, none⟩) 0 0) [] rfl (prow_fresh (by (first | exact heap_alloc2_new _ _ _ | exact heap_alloc2_old _ _ _ | exact heap_alloc_new _ _)) (by (first | omega | (simp; done) | (simp; omega)))) _ y.fields rfl (let ⟨n, p, s⟩ := HS6.out; ⟨n, p, s _ (K6.out.trans (Below.mono (by (repeat (first | exact Below.refl _ _ | exact hb1 | refine Below.drew ?_ | refine Below.alloc ?_ ?_ _)); (all_goals (first | omega | (simp; done) | (simp; omega)))) hz5))⟩) (by simp; omega) (by (first | omega | (simp; done) | (simp; omega))) ?_; intro v1 z1 hr1 hp1; have hb1 : Below x3.heap.size x3 z1 := Below.trans (by (repeat (first | exact Below.refl _ _ | exact hb1 | refine Below.drew ?_ | refine Below.alloc ?_ ?_ _)); (all_goals (first | omega | (simp; done) | (simp; omega)))) (hp1.below (by (first | omega | (simp; done) | (simp; omega))) (fun k hk => by cases hk; (first | omega | (simp; done) | (simp; omega)))); have hbs1 := hb1.size; have f7b : z1.cell? ⟨w.heap.size, 7, none⟩ = some (.slice B7 y.methods.length d7) := (hb1.cell hq).trans f7; have hqb : w.heap.size < z1.heap.size := Nat.lt_of_lt_of_le hq hbs1)
      | (refine step_appM (R := Mbr.rd w) rfl _ _ rfl x3.heap.size _ ([] ++ y.fields) rfl (by first | exact hr1 | (refine hr1.grow ?_; (repeat (first | exact Below.refl _ _ | exact hb1 | refine Below.drew ?_ | refine Below.alloc ?_ ?_ _)); (all_goals (first | omega | (simp; done) | (simp; omega))))) _ y.methods rfl (let ⟨n, p, s⟩ := HS7.out; ⟨n, p, s _ (K6.out.trans (Below.mono (by (repeat (first | exact Below.refl _ _ | exact hb1 | refine Below.drew ?_ | refine Below.alloc ?_ ?_ _)); (all_goals (first | omega | (simp; done) | (simp; omega)))) hz5))⟩) (by simp; omega) (by (first | omega | (simp; done) | (simp; omega))) ?_; intro v2 z2 hr2 hp2; have hb2 : Below x3.heap.size x3 z2 := Below.trans (by (repeat (first | exact Below.refl _ _ | exact hb1 | refine Below.drew ?_ | refine Below.alloc ?_ ?_ _)); (all_goals (first | omega | (simp; done) | (simp; omega)))) (hp2.below (by (first | omega | (simp; done) | (simp; omega))) (fun k hk => hr1.base_le hk)); rw [HLA.out] at hr2; obtain ⟨A2, c2, ev2, HP⟩ := hr2.reads; subst ev2)
      | (go_must (trace_state; fail))))
    all_goals (go_simp; go_wp2_with fail; go_meet; exact ⟨A2, c2, rfl, rfl, rfl, HP, hb2⟩)
  case rest =>
    obtain ⟨A2, c2, rfl, rfl, rfl, HP, hb2⟩ := hcut
    have HPP := Lib.hid HP
    have HT4 := Lib.hid (HT3.out.grow hb2)
    have K7 := Lib.hid (K6.out.trans (hb2.mono hz5))
    have HX6 := Lib.hid ((hb2.block w.heap.size hq).trans HX5.out)
    clear HP hb2 HT3 K6 HX5 hq f6 f7 HS6 HS7 HM3 HM6 HM7 HF5
    go_upto_region 6 with fail
    go_loopw [42] (fun uu wr => ∃ i : Nat, i ≤ L.length ∧ uu = .int .i64 i ∧ TBox wr w.heap.size g (UV.add (tlAll tlMbr (L.take i))) ∧ Below w.heap.size w wr ∧ Still wc wr ∧ wr.heap[w.heap.size]? = some (.cells #[.int .i64 y.minor, .int .i64 y.major, .int .i64 y.flags, .string (bs y.this), .string (bs y.super), .slice B5 y.faces.length d5, .slice B6 y.fields.length d6, .slice B7 y.methods.length d7, .int .i64 y.attrs.has, .int .i64 y.attrs.code.stack, .int .i64 y.attrs.code.locals, .slice C0 y.attrs.code.ops.length e0, .slice C1 y.attrs.code.handlers.length e1, .int .i64 y.attrs.code.has, .slice C2 y.attrs.code.lines.length e2, .slice C3 y.attrs.code.slots.length e3, .int .i64 y.attrs.value.tag, .string (bs y.attrs.value.text), .int .u64 y.attrs.value.bits, .string (bs y.attrs.value.cls), .string (bs y.attrs.value.name), .string (bs y.attrs.value.desc), .slice C4 y.attrs.throws.length e4, .slice C5 y.attrs.inners.length e5, .string (bs y.attrs.signature), .string (bs y.attrs.source)] 37)) (fun uu _ => L.length - (intOf uu).toNat)
    case atStart => exact ⟨0, Nat.zero_le _, rfl, by simpa [tlAll, Tl.add_nil] using HT4.out, K7.out, fun _ _ _ _ h _ _ _ => h, HX6.out⟩
    case round =>
      as_aux_lemma =>
      obtain ⟨i, hil, rfl, hT, hK, hS, hH⟩ := hrel
      have HKi := Lib.hid hK
      have HSi := Lib.hid hS
      have HHi := Lib.hid hH
      by_cases h1 : i < L.length
      · as_aux_lemma =>
        obtain ⟨gm, om, CC, x, cx, rfl, hC, hx, hrx, hcl, hcx⟩ := HPP.out.at_ h1
        have hsi := HR.out i x hx
        have HLX := Lib.hid (HLG.out x (List.mem_of_getElem? hx))
        have HSN := Lib.hid (tlAll_snoc tlMbr hx)
        obtain ⟨TA, hTA⟩ : ∃ TA, TA = UV.add (tlAll tlMbr (L.take i)) := ⟨_, rfl⟩
        rw [← hTA] at hT hsi
        have HTi := Lib.hid hT
        have HTA := Lib.hid hTA
        clear hTA
        have hCr := hS _ _ _ _ hC (by decide) (by decide) (by decide)
        have hcw := hcx wr hCr
        have HATX := Lib.hid (show Atr.rd w ((cx.drop 3).take 18) x.attrs from hrx.2.2.2.2)
        have HONE := Lib.hid (mbr_one cx x hrx)
        obtain ⟨Ma0, mc0, Ma1, mc1, Ma2, mc2, Ma3, mc3, Ma4, mc4, Ma5, mc5, rfl, _⟩ := Mbr.leafs hrx
        have HATX := Lib.hid (show Atr.rd w [.int .i64 x.attrs.has, .int .i64 x.attrs.code.stack, .int .i64 x.attrs.code.locals, .slice Ma0 x.attrs.code.ops.length mc0, .slice Ma1 x.attrs.code.handlers.length mc1, .int .i64 x.attrs.code.has, .slice Ma2 x.attrs.code.lines.length mc2, .slice Ma3 x.attrs.code.slots.length mc3, .int .i64 x.attrs.value.tag, .string (bs x.attrs.value.text), .int .u64 x.attrs.value.bits, .string (bs x.attrs.value.cls), .string (bs x.attrs.value.name), .string (bs x.attrs.value.desc), .slice Ma4 x.attrs.throws.length mc4, .slice Ma5 x.attrs.inners.length mc5, .string (bs x.attrs.signature), .string (bs x.attrs.source)] x.attrs from HATX.out)
        have hgr : gm < wr.heap.size := (Array.getElem?_eq_some_iff.1 hCr).1
        have HCW := Lib.hid hcw
        have hcl21 : (Tryd.prog.info? 59).map (·.size) = some 21 := by kernel_rfl
        clear hT hK hS hH hcw hcx hrx hC hCr
        go_upto_region 8 with (first | (refine wpList_load_cells rfl 59 _ rfl gm (om + i * 21) rfl _ HCW.out _ Tryd.underlying59 rfl hcl21 ?_) | (refine wpList_store_fresh rfl 59 _ _ rfl wr _ [.int .i64 x.flags, .string (bs x.name), .string (bs x.desc), .int .i64 x.attrs.has, .int .i64 x.attrs.code.stack, .int .i64 x.attrs.code.locals, .slice Ma0 x.attrs.code.ops.length mc0, .slice Ma1 x.attrs.code.handlers.length mc1, .int .i64 x.attrs.code.has, .slice Ma2 x.attrs.code.lines.length mc2, .slice Ma3 x.attrs.code.slots.length mc3, .int .i64 x.attrs.value.tag, .string (bs x.attrs.value.text), .int .u64 x.attrs.value.bits, .string (bs x.attrs.value.cls), .string (bs x.attrs.value.name), .string (bs x.attrs.value.desc), .slice Ma4 x.attrs.throws.length mc4, .slice Ma5 x.attrs.inners.length mc5, .string (bs x.attrs.signature), .string (bs x.attrs.source)] 59 rfl rfl hcl21 rfl HONE.out ?_))
        have k4 := (Below.refl wr.heap.size wr).alloc (Nat.le_refl _) (.cells #[.int .i64 x.flags, .string (bs x.name), .string (bs x.desc), .int .i64 x.attrs.has, .int .i64 x.attrs.code.stack, .int .i64 x.attrs.code.locals, .slice Ma0 x.attrs.code.ops.length mc0, .slice Ma1 x.attrs.code.handlers.length mc1, .int .i64 x.attrs.code.has, .slice Ma2 x.attrs.code.lines.length mc2, .slice Ma3 x.attrs.code.slots.length mc3, .int .i64 x.attrs.value.tag, .string (bs x.attrs.value.text), .int .u64 x.attrs.value.bits, .string (bs x.attrs.value.cls), .string (bs x.attrs.value.name), .string (bs x.attrs.value.desc), .slice Ma4 x.attrs.throws.length mc4, .slice Ma5 x.attrs.inners.length mc5, .string (bs x.attrs.signature), .string (bs x.attrs.source)] 59)
        have HX4 := Lib.hid (heap_alloc_new wr (.cells #[.int .i64 x.flags, .string (bs x.name), .string (bs x.desc), .int .i64 x.attrs.has, .int .i64 x.attrs.code.stack, .int .i64 x.attrs.code.locals, .slice Ma0 x.attrs.code.ops.length mc0, .slice Ma1 x.attrs.code.handlers.length mc1, .int .i64 x.attrs.code.has, .slice Ma2 x.attrs.code.lines.length mc2, .slice Ma3 x.attrs.code.slots.length mc3, .int .i64 x.attrs.value.tag, .string (bs x.attrs.value.text), .int .u64 x.attrs.value.bits, .string (bs x.attrs.value.cls), .string (bs x.attrs.value.name), .string (bs x.attrs.value.desc), .slice Ma4 x.attrs.throws.length mc4, .slice Ma5 x.attrs.inners.length mc5, .string (bs x.attrs.signature), .string (bs x.attrs.source)] 59))
        have hzr := HKi.out.size
        have HT4 := Lib.hid (HTi.out.grow k4)
        have K4 := Lib.hid (HKi.out.trans (k4.mono hzr))
        have S4 := Lib.hid (HSi.out.trans (still_below k4))
        have HH4 := Lib.hid ((k4.block w.heap.size (Array.getElem?_eq_some_iff.1 HHi.out).1).trans HHi.out)
        have hz4 := Nat.le_trans hzr k4.size
        clear k4 HONE HCW hcl21 HTi HKi HSi HHi
        generalize hW4 : wr.alloc (.cells #[.int .i64 x.flags, .string (bs x.name), .string (bs x.desc), .int .i64 x.attrs.has, .int .i64 x.attrs.code.stack, .int .i64 x.attrs.code.locals, .slice Ma0 x.attrs.code.ops.length mc0, .slice Ma1 x.attrs.code.handlers.length mc1, .int .i64 x.attrs.code.has, .slice Ma2 x.attrs.code.lines.length mc2, .slice Ma3 x.attrs.code.slots.length mc3, .int .i64 x.attrs.value.tag, .string (bs x.attrs.value.text), .int .u64 x.attrs.value.bits, .string (bs x.attrs.value.cls), .string (bs x.attrs.value.name), .string (bs x.attrs.value.desc), .slice Ma4 x.attrs.throws.length mc4, .slice Ma5 x.attrs.inners.length mc5, .string (bs x.attrs.signature), .string (bs x.attrs.source)] 59) = W4 at HX4 HT4 K4 S4 HH4 hz4 ⊢
        clear hW4
        as_aux_lemma =>
        have l0 : W4.cell? ⟨wr.heap.size, 0, none⟩ = some (.int .i64 x.flags) := by rw [Lib.cell_of_heap HX4.out]; rfl
        have hl4 := (Array.getElem?_eq_some_iff.1 HX4.out).1
        have k5 := (Below.refl W4.heap.size W4).alloc (Nat.le_refl _) (.cells #[.int .i64 x.flags] 3)
        have CC5 := Lib.hid (ints_tell w.heap.size g 1 (some ⟨W4.heap.size, 0, none⟩) _ [x.flags] _ (HT4.out.grow k5) (ints_new (heap_alloc_new W4 (.cells #[.int .i64 x.flags] 3)) [x.flags] rfl) (by simp only [List.length_cons, List.length_nil]; omega) (Nat.le_trans hz4 k5.size))
        have K5 := Lib.hid (k5.mono hz4)
        have S5 := Lib.hid (still_below k5)
        clear k5
        go_upto_region 9 with fail
        refine CC5.out.mono ?_
        rintro e x2 ⟨rfl, t2, b2, s2⟩
        have HT5 := Lib.hid t2
        have K6 := Lib.hid (K4.out.trans (K5.out.trans b2))
        have S6 := Lib.hid (S4.out.trans (S5.out.trans s2))
        have HX6 := Lib.hid ((S5.out.trans s2) _ _ _ _ HX4.out (by decide) (by decide) (by decide))
        have HH6 := Lib.hid ((S5.out.trans s2) _ _ _ _ HH4.out (by decide) (by decide) (by decide))
        have hz6 := Nat.le_trans hz4 (Nat.le_trans K5.out.size b2.size)
        clear t2 b2 s2 CC5 K4 S4 K5 S5 HX4 HH4 HT4 l0 hl4
        as_aux_lemma =>
        have l1 : x2.cell? ⟨wr.heap.size, 1, none⟩ = some (.string (bs x.name)) := by rw [Lib.cell_of_heap HX6.out]; rfl
        have l2 : x2.cell? ⟨wr.heap.size, 2, none⟩ = some (.string (bs x.desc)) := by rw [Lib.cell_of_heap HX6.out]; rfl
        have hl6 := (Array.getElem?_eq_some_iff.1 HX6.out).1
        have n5 : (TA.add (tlInts [x.flags])).1.length = TA.1.length + 1 ∧ (TA.add (tlInts [x.flags])).2.length = TA.2.length := by simp [Tl.add, tlInts]
        have k7 := (Below.refl x2.heap.size x2).alloc (Nat.le_refl _) (.cells #[.string (bs x.name), .string (bs x.desc)] 9)
        have CC7 := Lib.hid (texts_tell w.heap.size g 2 (some ⟨x2.heap.size, 0, none⟩) _ [x.name, x.desc] _ (HT5.out.grow k7) (txt_new (heap_alloc_new x2 (.cells #[.string (bs x.name), .string (bs x.desc)] 9)) [x.name, x.desc] rfl) (fun _ => txtAt_new (heap_alloc_new x2 (.cells #[.string (bs x.name), .string (bs x.desc)] 9))) (by rw [n5.1]; omega) (by rw [n5.2]; simp only [List.length_cons, List.length_nil]; omega) (Nat.le_trans hz6 k7.size))
        have K7 := Lib.hid (k7.mono hz6)
        have S7 := Lib.hid (still_below k7)
        clear k7
        go_upto_region 9 with fail
        go_upto_region 10 with fail
        refine CC7.out.mono ?_
        rintro e x4 ⟨rfl, t3, b3, s3⟩
        have HT7 := Lib.hid t3
        have K8 := Lib.hid (K6.out.trans (K7.out.trans b3))
        have S8 := Lib.hid (S6.out.trans (S7.out.trans s3))
        have HX8 := Lib.hid ((S7.out.trans s3) _ _ _ _ HX6.out (by decide) (by decide) (by decide))
        have HH8 := Lib.hid ((S7.out.trans s3) _ _ _ _ HH6.out (by decide) (by decide) (by decide))
        have hz8 := Nat.le_trans hz6 (Nat.le_trans K7.out.size b3.size)
        clear t3 b3 s3 CC7 K6 S6 K7 S7 HX6 HH6 HT5 l1 l2 hl6
        as_aux_lemma =>
        have HCA := Lib.hid (show CellsAt x4 wr.heap.size 3 [.int .i64 x.attrs.has, .int .i64 x.attrs.code.stack, .int .i64 x.attrs.code.locals, .slice Ma0 x.attrs.code.ops.length mc0, .slice Ma1 x.attrs.code.handlers.length mc1, .int .i64 x.attrs.code.has, .slice Ma2 x.attrs.code.lines.length mc2, .slice Ma3 x.attrs.code.slots.length mc3, .int .i64 x.attrs.value.tag, .string (bs x.attrs.value.text), .int .u64 x.attrs.value.bits, .string (bs x.attrs.value.cls), .string (bs x.attrs.value.name), .string (bs x.attrs.value.desc), .slice Ma4 x.attrs.throws.length mc4, .slice Ma5 x.attrs.inners.length mc5, .string (bs x.attrs.signature), .string (bs x.attrs.source)] from cellsAt_block HX8.out 3 18)
        have hcl18 : (Tryd.prog.info? 35).map (·.size) = some 18 := by kernel_rfl
        have hl8 := (Array.getElem?_eq_some_iff.1 HX8.out).1
        have hmh := mbr_head TA x
        have CC9 := Lib.hid (attrs_tell w x4 g _ x.attrs _ HATX.out HLX.out.2.2.2 K8.out HT7.out (by omega))
        go_upto_region 10 with (refine wpList_load_cells rfl 35 _ rfl wr.heap.size 3 rfl _ HCA.out _ Tryd.underlying35 rfl hcl18 ?_)
        go_upto_region 11 with (refine wpList_load_cells rfl 35 _ rfl wr.heap.size 3 rfl _ HCA.out _ Tryd.underlying35 rfl hcl18 ?_)
        refine CC9.out.mono ?_
        rintro e x5 ⟨rfl, t4, b4, s4⟩
        have HT9 := Lib.hid t4
        have K9 := Lib.hid (K8.out.trans b4)
        have S9 := Lib.hid (S8.out.trans s4)
        have HH9 := Lib.hid (s4 _ _ _ _ HH8.out (by decide) (by decide) (by decide))
        clear t4 b4 s4 CC9 K8 S8 HX8 HH8 HT7 HCA hcl18 hl8
        as_aux_lemma =>
        have HF := Lib.hid (show ((TA.add (tlInts [x.flags])).add (tlTexts [x.name, x.desc])).add (tlAtr x.attrs) = UV.add (tlAll tlMbr (L.take (i + 1))) by rw [HSN.out, HTA.out]; simp only [tlMbr, Tl.add_assoc])
        go_wp2_with fail
        have hwr := wrap_next h1 (Nat.le_trans HLg.out (by omega))
        refine ⟨⟨i + 1, h1, by rw [hwr], by rw [← HF.out]; exact HT9.out, K9.out, S9.out, HH9.out⟩, ?_⟩
        rw [hwr]
        exact less_next h1
      · as_aux_lemma =>
        have hie : i = L.length := by omega
        subst hie
        rw [List.take_length] at hT
        have HT5 := Lib.hid hT
        clear hT hK hS hH
        have HCA := Lib.hid (show CellsAt wr w.heap.size 8 [.int .i64 y.attrs.has, .int .i64 y.attrs.code.stack, .int .i64 y.attrs.code.locals, .slice C0 y.attrs.code.ops.length e0, .slice C1 y.attrs.code.handlers.length e1, .int .i64 y.attrs.code.has, .slice C2 y.attrs.code.lines.length e2, .slice C3 y.attrs.code.slots.length e3, .int .i64 y.attrs.value.tag, .string (bs y.attrs.value.text), .int .u64 y.attrs.value.bits, .string (bs y.attrs.value.cls), .string (bs y.attrs.value.name), .string (bs y.attrs.value.desc), .slice C4 y.attrs.throws.length e4, .slice C5 y.attrs.inners.length e5, .string (bs y.attrs.signature), .string (bs y.attrs.source)] from cellsAt_block HHi.out 8 18)
        have hcl18 : (Tryd.prog.info? 35).map (·.size) = some 18 := by kernel_rfl
        have hq := (Array.getElem?_eq_some_iff.1 HHi.out).1
        have HATR := Lib.hid (show Atr.rd w [.int .i64 y.attrs.has, .int .i64 y.attrs.code.stack, .int .i64 y.attrs.code.locals, .slice C0 y.attrs.code.ops.length e0, .slice C1 y.attrs.code.handlers.length e1, .int .i64 y.attrs.code.has, .slice C2 y.attrs.code.lines.length e2, .slice C3 y.attrs.code.slots.length e3, .int .i64 y.attrs.value.tag, .string (bs y.attrs.value.text), .int .u64 y.attrs.value.bits, .string (bs y.attrs.value.cls), .string (bs y.attrs.value.name), .string (bs y.attrs.value.desc), .slice C4 y.attrs.throws.length e4, .slice C5 y.attrs.inners.length e5, .string (bs y.attrs.signature), .string (bs y.attrs.source)] y.attrs from HATR.out)
        have CC5 := Lib.hid (attrs_tell w wr g _ y.attrs _ HATR.out hg.2.2.2.2.2.2.2.2 HKi.out HT5.out HR2.out)
        have HE := Lib.hid (show (UV.add (tlAll tlMbr L)).add (tlAtr y.attrs) = tlCls y by rw [HUV.out, HL.out]; rfl)
        go_wp2_with (refine wpList_load_cells rfl 35 _ rfl w.heap.size 8 rfl _ HCA.out _ Tryd.underlying35 rfl hcl18 ?_)
        refine CC5.out.mono ?_
        rintro e x6 ⟨rfl, t6, b6, s6⟩
        rw [HE.out] at t6
        have HT6 := Lib.hid t6
        have K8 := Lib.hid (HKi.out.trans b6)
        clear t6 b6 s6 CC5 HHi hq HCA hcl18
        go_wp2_with fail
        go_ret
        exact ⟨g, rfl, HT6.out, K8.out⟩
end Go.Proofs.YtpjafbinlklojaaDoor

/- The walk of layer 20's Few. Printed by mk_few.py. -/
namespace Go.Proofs.YtpjafbinlklojaaDoor
open Go.RowKit Go.Deep

def mins (ss : List (List UInt8)) : Nat := (ss.map fun s => min s.length 100000).sum
theorem mins_snoc {ss : List (List UInt8)} {i : Nat} {x : List UInt8} (h : ss[i]? = some x) : mins (ss.take (i + 1)) = mins (ss.take i) + min x.length 100000 := by
  rw [List.take_add_one, h]
  simp [mins, List.sum_append]
theorem mins_take (ss : List (List UInt8)) (i : Nat) : mins (ss.take i) ≤ mins ss := by
  conv => rhs; rw [← List.take_append_drop i ss]
  simp only [mins, List.map_append, List.sum_append]
  omega
theorem text_size {t : Tl} {x : List UInt8} (h : x ∈ t.2) : x.length ≤ t.size := by
  have : ∀ l : List (List UInt8), x ∈ l → x.length ≤ (l.map fun s => s.length + 1).sum := fun l => by
    induction l with
    | nil => intro h; cases h
    | cons a l ih =>
      intro h
      simp only [List.map_cons, List.sum_cons]
      rcases List.mem_cons.1 h with rfl | h
      · omega
      · have := ih h
        omega
  have := this t.2 h
  unfold Tl.size
  omega
theorem few_no {t : Tl} {i : Nat} (h : 20000 < mins (t.2.take i)) : t.few = false := by
  have := mins_take t.2 i
  unfold Tl.few
  rw [show decide ((t.2.map fun s => min s.length 100000).sum ≤ 20000) = false from decide_eq_false (by unfold mins at this h; omega)]
  rfl
theorem few_end {t : Tl} (h : mins t.2 ≤ 20000) : t.few = decide (t.1.length ≤ 20000) := by
  unfold Tl.few
  rw [show decide ((t.2.map fun s => min s.length 100000).sum ≤ 20000) = true from decide_eq_true h]
  rfl
theorem min_int (x : List UInt8) : (if (100000 : Int) < ((bs x).size : Int) then (100000 : Int) else ((bs x).size : Int)) = ((min x.length 100000 : Nat) : Int) := by
  rw [bs_size]
  split <;> omega
theorem min_int2 (x : List UInt8) : min ((bs x).size : Int) 100000 = ((min x.length 100000 : Nat) : Int) := by
  rw [bs_size]
  omega
theorem few_last (n : Nat) : Ending.returned (Value.bool (decide ((n : Int) ≤ 20000))) = Ending.returned (Value.bool (decide (n ≤ 20000))) := by
  rw [show decide ((n : Int) ≤ 20000) = decide (n ≤ 20000) from decide_eq_decide.2 (by omega)]
set_option maxRecDepth 100000 in
set_option maxHeartbeats 4000000 in
theorem few_any (w : World) (y : Cls) (cs : List Value) (hr : Cls.rd w cs y) (hg : y.good) (hsz : (tlCls y).size ≤ 100000000) :
    Calls Tryd.prog 5 #[.agg cs.toArray] w fun e w' => e = .returned (.bool (tlCls y).few) ∧ Below w.heap.size w w' := by
  have HRD := Lib.hid (fun w' (k : Below w.heap.size w w') => Cls.rd_grow hr k)
  obtain ⟨B5, d5, B6, d6, B7, d7, C0, e0, C1, e1, C2, e2, C3, e3, C4, e4, C5, e5, rfl, _⟩ := Cls.leafs hr
  have k1 := (Below.refl w.heap.size w).alloc (Nat.le_refl _) (.cells #[.int .i64 y.minor, .int .i64 y.major, .int .i64 y.flags, .string (bs y.this), .string (bs y.super), .slice B5 y.faces.length d5, .slice B6 y.fields.length d6, .slice B7 y.methods.length d7, .int .i64 y.attrs.has, .int .i64 y.attrs.code.stack, .int .i64 y.attrs.code.locals, .slice C0 y.attrs.code.ops.length e0, .slice C1 y.attrs.code.handlers.length e1, .int .i64 y.attrs.code.has, .slice C2 y.attrs.code.lines.length e2, .slice C3 y.attrs.code.slots.length e3, .int .i64 y.attrs.value.tag, .string (bs y.attrs.value.text), .int .u64 y.attrs.value.bits, .string (bs y.attrs.value.cls), .string (bs y.attrs.value.name), .string (bs y.attrs.value.desc), .slice C4 y.attrs.throws.length e4, .slice C5 y.attrs.inners.length e5, .string (bs y.attrs.signature), .string (bs y.attrs.source)] 37)
  have HX := Lib.hid (heap_alloc_new w (.cells #[.int .i64 y.minor, .int .i64 y.major, .int .i64 y.flags, .string (bs y.this), .string (bs y.super), .slice B5 y.faces.length d5, .slice B6 y.fields.length d6, .slice B7 y.methods.length d7, .int .i64 y.attrs.has, .int .i64 y.attrs.code.stack, .int .i64 y.attrs.code.locals, .slice C0 y.attrs.code.ops.length e0, .slice C1 y.attrs.code.handlers.length e1, .int .i64 y.attrs.code.has, .slice C2 y.attrs.code.lines.length e2, .slice C3 y.attrs.code.slots.length e3, .int .i64 y.attrs.value.tag, .string (bs y.attrs.value.text), .int .u64 y.attrs.value.bits, .string (bs y.attrs.value.cls), .string (bs y.attrs.value.name), .string (bs y.attrs.value.desc), .slice C4 y.attrs.throws.length e4, .slice C5 y.attrs.inners.length e5, .string (bs y.attrs.signature), .string (bs y.attrs.source)] 37))
  have K1 := Lib.hid k1
  have hz1 := k1.size
  clear k1 hr
  go_enter Tryd.func5, Tryd.ntmps5
  go_upto_region 1 with fail
  generalize w.alloc (.cells #[.int .i64 y.minor, .int .i64 y.major, .int .i64 y.flags, .string (bs y.this), .string (bs y.super), .slice B5 y.faces.length d5, .slice B6 y.fields.length d6, .slice B7 y.methods.length d7, .int .i64 y.attrs.has, .int .i64 y.attrs.code.stack, .int .i64 y.attrs.code.locals, .slice C0 y.attrs.code.ops.length e0, .slice C1 y.attrs.code.handlers.length e1, .int .i64 y.attrs.code.has, .slice C2 y.attrs.code.lines.length e2, .slice C3 y.attrs.code.slots.length e3, .int .i64 y.attrs.value.tag, .string (bs y.attrs.value.text), .int .u64 y.attrs.value.bits, .string (bs y.attrs.value.cls), .string (bs y.attrs.value.name), .string (bs y.attrs.value.desc), .slice C4 y.attrs.throws.length e4, .slice C5 y.attrs.inners.length e5, .string (bs y.attrs.signature), .string (bs y.attrs.source)] 37) = W at HX K1 hz1 ⊢
  have HCA := Lib.hid (show CellsAt W w.heap.size 0 [.int .i64 y.minor, .int .i64 y.major, .int .i64 y.flags, .string (bs y.this), .string (bs y.super), .slice B5 y.faces.length d5, .slice B6 y.fields.length d6, .slice B7 y.methods.length d7, .int .i64 y.attrs.has, .int .i64 y.attrs.code.stack, .int .i64 y.attrs.code.locals, .slice C0 y.attrs.code.ops.length e0, .slice C1 y.attrs.code.handlers.length e1, .int .i64 y.attrs.code.has, .slice C2 y.attrs.code.lines.length e2, .slice C3 y.attrs.code.slots.length e3, .int .i64 y.attrs.value.tag, .string (bs y.attrs.value.text), .int .u64 y.attrs.value.bits, .string (bs y.attrs.value.cls), .string (bs y.attrs.value.name), .string (bs y.attrs.value.desc), .slice C4 y.attrs.throws.length e4, .slice C5 y.attrs.inners.length e5, .string (bs y.attrs.signature), .string (bs y.attrs.source)] from cellsAt_block HX.out 0 26)
  have hcl : (Tryd.prog.info? 37).map (·.size) = some 26 := by kernel_rfl
  have CL := Lib.hid (told_any W y _ (HRD.out W K1.out) hg hsz)
  go_upto_region 2 with (refine wpList_load_cells rfl 37 _ rfl w.heap.size 0 rfl _ HCA.out _ Tryd.underlying37 rfl hcl ?_)
  refine CL.out.mono ?_
  rintro e w2 ⟨g, rfl, ht, hb⟩
  have K2 := Lib.hid (K1.out.trans (hb.mono hz1))
  obtain ⟨vN, vS, h1, _, hn, hs⟩ := ht
  obtain ⟨AN, cN, rfl, _⟩ := hn.reads
  obtain ⟨AS, cS, rfl, hS⟩ := hs.reads
  have HS := Lib.hid hS
  have f0 : w2.cell? ⟨g, 0, none⟩ = some (.slice AN (tlCls y).1.length cN) := by rw [Lib.cell_of_heap h1]; rfl
  have f1 : w2.cell? ⟨g, 1, none⟩ = some (.slice AS (tlCls y).2.length cS) := by rw [Lib.cell_of_heap h1]; rfl
  have hq := (Array.getElem?_eq_some_iff.1 h1).1
  have hln := len_size (tlCls y)
  have HTS := Lib.hid (fun x (hx : x ∈ (tlCls y).2) => Nat.le_trans (text_size hx) hsz)
  clear CL hb hn hs hS h1 HX HCA HRD hcl K1 hz1
  generalize hTy : tlCls y = T at f0 f1 HS hln HTS hsz ⊢
  have HTY := Lib.hid hTy
  clear hTy
  go_upto_region 4 with fail
  go_loopw [4, 14] (fun s4 s14 wr => ∃ i : Nat, i ≤ T.2.length ∧ s14 = .int .i64 i ∧ s4 = .int .i64 (mins (T.2.take i) : Nat) ∧ mins (T.2.take i) ≤ 20000 ∧ wr = w2) (fun _ s14 _ => T.2.length - (intOf s14).toNat)
  case atStart => exact ⟨0, Nat.zero_le _, rfl, rfl, by simp [mins], rfl⟩
  case round =>
    obtain ⟨i, hil, rfl, rfl, hm, rfl⟩ := hrel
    by_cases h1 : i < T.2.length
    · obtain ⟨g2, o2, x, rfl, hgw, hx, hc⟩ := HS.out.at_ h1
      have hxl := HTS.out x (List.mem_of_getElem? hx)
      have hms := mins_snoc hx
      go_upto_region 7 with fail
      have he : (if (100000 : Int) < ((bs x).size : Int) then (100000 : Int) else ((bs x).size : Int)) = ((min x.length 100000 : Nat) : Int) := min_int x
      have he2 : min ((bs x).size : Int) 100000 = ((min x.length 100000 : Nat) : Int) := min_int2 x
      first | rw [he] | rw [he2]
      rw [← Int.natCast_add, ← hms]
      clear he he2 hms
      obtain ⟨m2, hm2⟩ : ∃ m2, m2 = mins (T.2.take (i + 1)) := ⟨_, rfl⟩
      rw [← hm2]
      by_cases hb2 : m2 ≤ 20000
      · have hbi : ((m2 : Int) ≤ 20000) := by omega
        have hbj : ¬ ((20000 : Int) < (m2 : Int)) := by omega
        go_wp2_with fail
        refine ⟨⟨i + 1, h1, rfl, by rw [← hm2], by rw [← hm2]; exact hb2, trivial⟩, ?_⟩
        exact less_next h1
      · have hbi : ¬ ((m2 : Int) ≤ 20000) := by omega
        have hbj : ((20000 : Int) < (m2 : Int)) := by omega
        have hfn := few_no (t := T) (i := i + 1) (by omega)
        go_wp2_with fail
        go_ret
        exact ⟨by rw [HTY.out, hfn]; rfl, K2.out⟩
    · have hie : i = T.2.length := by omega
      subst hie
      rw [List.take_length] at hm
      have hfe := few_end hm
      go_wp2_with fail
      go_ret
      refine ⟨?_, K2.out⟩
      rw [HTY.out, hfe]
      exact few_last _
end Go.Proofs.YtpjafbinlklojaaDoor

/- Layer 35: what is said beside: the words' variable, and what puts more into it. -/
namespace Go.Proofs.YtpjafbinlklojaaDoor
open Go.RowKit Go.Deep

/-- The attributes' box, and the variable of the words. -/
structure Bsd (w : World) (v : Nat) (CB : Array Value) (L : List (List UInt8)) (x : World) : Prop where
  below : Below w.heap.size w x
  hv : w.heap.size ≤ v
  box : x.heap[w.heap.size]? = some (.cells CB 35 (0, 0))
  var : ∃ vS, x.heap[v]? = some (.cells #[vS] 22 (0, 0)) ∧ TRow x w.heap.size vS L
theorem Bsd.grow {w x y : World} {v : Nat} {CB : Array Value} {L : List (List UInt8)} (h : Bsd w v CB L x) (k : Below x.heap.size x y) : Bsd w v CB L y := by
  obtain ⟨h1, h2, h3, vS, h4, h5⟩ := h
  exact ⟨h1.trans (k.mono h1.size), h2, (k.block _ (Array.getElem?_eq_some_iff.1 h3).1).trans h3, vS, (k.block _ (Array.getElem?_eq_some_iff.1 h4).1).trans h4, h5.grow k⟩
theorem heap_set1 {w : World} {b : Nat} {x u : Value} {e : TypeId} (h : w.heap[b]? = some (.cells #[x] e (0, 0))) : (w.setCell ⟨b, 0, none⟩ u).heap[b]? = some (.cells #[u] e (0, 0)) := by
  simp only [World.setCell, Array.getElem?_modify, if_true, h, Option.map_some]
  rfl
theorem Bsd.put {w x x1 : World} {v : Nat} {CB : Array Value} {L ss : List (List UInt8)} {vS v' : Value} (hb : Below w.heap.size w x) (hv : w.heap.size ≤ v) (hbox : x.heap[w.heap.size]? = some (.cells CB 35 (0, 0)))
    (h4 : x.heap[v]? = some (.cells #[vS] 22 (0, 0))) (h5 : TRow x w.heap.size vS L) (hr : TRow x1 w.heap.size v' (L ++ ss)) (hh : Hop x x1 vS.ownBlock v'.ownBlock) :
    Bsd w v CB (L ++ ss) (x1.setCell ⟨v, 0, none⟩ v') ∧ x1.heap[v]? = some (.cells #[vS] 22 (0, 0)) := by
  have n1 := own_ne h5 hbox (by decide)
  have n2 := own_ne h5 h4 (by decide)
  have e1 : x1.heap[w.heap.size]? = some (.cells CB 35 (0, 0)) := (hh.1.block _ (Array.getElem?_eq_some_iff.1 hbox).1 n1).trans hbox
  have e2 : x1.heap[v]? = some (.cells #[vS] 22 (0, 0)) := (hh.1.block _ (Array.getElem?_eq_some_iff.1 h4).1 n2).trans h4
  have hne : w.heap.size ≠ v := fun e => by
    rw [e, e2] at e1
    simp at e1
  refine ⟨⟨(hb.trans (hh.below hb.size (fun k hk => (World.ownsRow.lt h5 k hk).1))).setCell hv _, hv, (heap_off hne).trans e1, v', heap_set1 e2, ?_⟩, e2⟩
  exact ownsRow_setCell_other hr (fun e => own_ne hr e2 (by decide) e.symm) _
set_option maxRecDepth 100000 in
theorem put_any (w x : World) (v c : Nat) (A : Option Addr) (CB : Array Value) (L ss : List (List UInt8)) (h : Bsd w v CB L x) (bit has : Int) (hx : Txt x A c ss) (hcb : CB[0]? = some (.int .i64 has)) (hN : L.length + ss.length ≤ 1000000000) :
    Calls Tryd.prog 32 #[.int .i64 bit, .slice A ss.length c, .pointer (some ⟨w.heap.size, 0, none⟩), .pointer (some ⟨v, 0, none⟩)] x fun e x' => e = .returned (.tuple #[]) ∧ Bsd w v CB (L ++ if hasB has bit then ss else []) x' := by
  have H := Lib.hid h
  obtain ⟨h1, h2, h3, vS, h4, h5⟩ := h
  have c0 : x.cell? ⟨w.heap.size, 0, none⟩ = some (.int .i64 has) := by rw [Lib.cell_of_heap h3]; exact hcb
  have hq := (Array.getElem?_eq_some_iff.1 h3).1
  have HX := Lib.hid hx
  have H1 := Lib.hid h1
  have H3 := Lib.hid h3
  have H4 := Lib.hid h4
  have H5 := Lib.hid h5
  have c1 : x.cell? ⟨v, 0, none⟩ = some vS := by rw [Lib.cell_of_heap h4]; rfl
  have hbs := h1.size
  clear hx h1 h3 h4 h5 hcb
  cases hh : hasB has bit with
  | false =>
    have hh2 : (bits .and .i64 has bit != 0) = false := hh
    go_enter Tryd.func32, Tryd.ntmps32
    go_wp2_with fail
    go_end0
    exact ⟨rfl, H.out⟩
  | true =>
    have hh2 : (bits .and .i64 has bit != 0) = true := hh
    go_enter Tryd.func32, Tryd.ntmps32
    go_wp2_with (at_builtin; refine wpList_appT rfl _ _ rfl w.heap.size vS L rfl H5.out _ ss rfl HX.out.src (by omega) hbs ?_; intro v1 x1 hr1 hh1; obtain ⟨p1, p2⟩ := Bsd.put H1.out h2 H3.out H4.out H5.out hr1 hh1; obtain ⟨A1, d1, ev1, _⟩ := hr1.reads; subst ev1; rw [List.length_append] at p1; have P1 := Lib.hid p1; have z0 : x1.cell? ⟨v, 0, none⟩ = some vS := (by rw [Lib.cell_of_heap p2]; rfl); have z1 : x1.frozen? ⟨v, 0, none⟩ = false := (by simp [World.frozen?, p2]); clear p1 p2 hr1 hh1)
    go_end0
    exact ⟨rfl, P1.out⟩
end Go.Proofs.YtpjafbinlklojaaDoor

/- Layer 35: what is said beside, whole. Printed by mk_bes.py. -/
namespace Go.Proofs.YtpjafbinlklojaaDoor
open Go.RowKit Go.Deep

theorem Bsd.first {w w1 : World} {CB : Array Value} (h1 : Below w.heap.size w w1) (hb : w1.heap[w.heap.size]? = some (.cells CB 35 (0, 0))) (a b : List UInt8) :
    Bsd w (w1.heap.size + 1) CB [a, b] ((w1.alloc (.cells #[.string (bs a), .string (bs b)] 9)).alloc (.cells #[.slice (some ⟨w1.heap.size, 0, none⟩) 2 2] 22)) := by
  have s1 : (w1.alloc (.cells #[.string (bs a), .string (bs b)] 9)).heap.size = w1.heap.size + 1 := by show (w1.heap.push _).size = _; simp
  have k1 := (Below.refl w1.heap.size w1).alloc (Nat.le_refl _) (.cells #[.string (bs a), .string (bs b)] 9)
  have k2 := (Below.refl (w1.alloc (.cells #[.string (bs a), .string (bs b)] 9)).heap.size (w1.alloc (.cells #[.string (bs a), .string (bs b)] 9))).alloc (Nat.le_refl _) (.cells #[.slice (some ⟨w1.heap.size, 0, none⟩) 2 2] 22)
  have k := k1.trans (k2.mono k1.size)
  refine ⟨h1.trans (k.mono h1.size), by have := h1.size; omega, (k.block _ (Array.getElem?_eq_some_iff.1 hb).1).trans hb, .slice (some ⟨w1.heap.size, 0, none⟩) 2 2, ?_, ?_⟩
  · have := heap_alloc_new (w1.alloc (.cells #[.string (bs a), .string (bs b)] 9)) (.cells #[.slice (some ⟨w1.heap.size, 0, none⟩) 2 2] 22)
    rw [s1] at this
    exact this
  · exact (show TRow (w1.alloc (.cells #[.string (bs a), .string (bs b)] 9)) w.heap.size (.slice (some ⟨w1.heap.size, 0, none⟩) 2 2) [a, b] from World.ownsRow_lit (base := w.heap.size) (e := 9) (size := 1) w1 #[.string (bs a), .string (bs b)] 2 h1.size (by unfold maxLen; omega) rfl).grow k2
/-- How many words stand ahead of what is thrown. -/
theorem bes_app (L : List (List UInt8)) (b : Bool) (a : List (List UInt8)) : (L ++ if b then a else []).length ≤ L.length + a.length := by
  cases b <;> simp
theorem bes_step (b : Bool) (L : List (List UInt8)) (ss : List (List UInt8)) (x : List UInt8) : (L ++ if b then ss else []) ++ (if b then [x] else []) = L ++ if b then ss ++ [x] else [] := by
  cases b <;> simp
theorem bes_whole (y : Atr) : (((([[98, 101, 115, 105, 100, 101], Lib.itoa y.has] ++ if hasB y.has 2 then [[118, 97, 108, 117, 101], Li.value y.value.li] else []) ++ if hasB y.has 8 then [[116, 104, 114, 111, 119, 115]] else []) ++ if hasB y.has 8 then y.throws.map Li.or else []) ++
    (if hasB y.has 32 then [[115, 105, 103, 110, 97, 116, 117, 114, 101], Li.or y.signature] else [])) ++ (if hasB y.has 64 then [[115, 111, 117, 114, 99, 101], Li.or y.source] else []) = Li.besideL y := by
  unfold Li.besideL
  cases hasB y.has 2 <;> cases hasB y.has 8 <;> cases hasB y.has 32 <;> cases hasB y.has 64 <;> simp
set_option maxHeartbeats 8000000 in
set_option maxRecDepth 100000 in
theorem beside_any (w : World) (y : Atr) (cs : List Value) (hr : Atr.rd w cs y) (hg : y.good) (hb : y.blk ≤ 2000000) (ht : TabP w) :
    Calls Tryd.prog 17 #[.agg cs.toArray] w fun e w' => e = .returned (.string (bs (Li.beside y))) ∧ Below w.heap.size w w' := by
  obtain ⟨hok, hths, hsg, hsc, hthn, hline, hmany⟩ := atr_ok hg hb
  obtain ⟨C0, e0, C1, e1, C2, e2, C3, e3, C4, e4, C5, e5, rfl, _, _, _, _, ⟨sT, _⟩, _⟩ := Atr.leafs hr
  have HTS := Lib.hid sT
  have HT := Lib.hid ht
  have HOK := Lib.hid hok
  have HTL := Lib.hid hths
  have HLN := Lib.hid hline
  have k1 := (Below.refl w.heap.size w).alloc (Nat.le_refl _) (.cells #[.int .i64 y.has, .int .i64 y.code.stack, .int .i64 y.code.locals, .slice C0 y.code.ops.length e0, .slice C1 y.code.handlers.length e1, .int .i64 y.code.has, .slice C2 y.code.lines.length e2, .slice C3 y.code.slots.length e3, .int .i64 y.value.tag, .string (bs y.value.text), .int .u64 y.value.bits, .string (bs y.value.cls), .string (bs y.value.name), .string (bs y.value.desc), .slice C4 y.throws.length e4, .slice C5 y.inners.length e5, .string (bs y.signature), .string (bs y.source)] 35)
  have HX := Lib.hid (heap_alloc_new w (.cells #[.int .i64 y.has, .int .i64 y.code.stack, .int .i64 y.code.locals, .slice C0 y.code.ops.length e0, .slice C1 y.code.handlers.length e1, .int .i64 y.code.has, .slice C2 y.code.lines.length e2, .slice C3 y.code.slots.length e3, .int .i64 y.value.tag, .string (bs y.value.text), .int .u64 y.value.bits, .string (bs y.value.cls), .string (bs y.value.name), .string (bs y.value.desc), .slice C4 y.throws.length e4, .slice C5 y.inners.length e5, .string (bs y.signature), .string (bs y.source)] 35))
  have K1 := Lib.hid k1
  clear k1 hr sT ht hok hths hline
  go_enter Tryd.func17, Tryd.ntmps17
  go_upto_region 1 with fail
  generalize w.alloc (.cells #[.int .i64 y.has, .int .i64 y.code.stack, .int .i64 y.code.locals, .slice C0 y.code.ops.length e0, .slice C1 y.code.handlers.length e1, .int .i64 y.code.has, .slice C2 y.code.lines.length e2, .slice C3 y.code.slots.length e3, .int .i64 y.value.tag, .string (bs y.value.text), .int .u64 y.value.bits, .string (bs y.value.cls), .string (bs y.value.name), .string (bs y.value.desc), .slice C4 y.throws.length e4, .slice C5 y.inners.length e5, .string (bs y.signature), .string (bs y.source)] 35) = W at HX K1 ⊢
  have f0 : W.cell? ⟨w.heap.size, 0, none⟩ = some (.int .i64 y.has) := by rw [Lib.cell_of_heap HX.out]; rfl
  have hq := (Array.getElem?_eq_some_iff.1 HX.out).1
  go_upto_region 2 with fail
  refine (itoa_any y.has W hg.1 (tab_below HT.out K1.out)).mono ?_
  rintro e w1 ⟨rfl, hb1⟩
  have K2 := Lib.hid (K1.out.trans (hb1.mono K1.out.size))
  have HX1 := Lib.hid ((hb1.block _ hq).trans HX.out)
  have q1 := (Array.getElem?_eq_some_iff.1 HX1.out).1
  clear hb1 K1 HX f0 hq
  go_upto_region 2 with fail
  have B2 := Lib.hid (Bsd.first K2.out HX1.out [98, 101, 115, 105, 100, 101] (Lib.itoa y.has))
  generalize hW2 : (w1.alloc (.cells #[.string (bs [98, 101, 115, 105, 100, 101]), .string (bs (Lib.itoa y.has))] 9)).alloc (.cells #[.slice (some ⟨w1.heap.size, 0, none⟩) 2 2] 22) = W2 at B2
  rw [show (w1.alloc (.cells #[.string ⟨#[98, 101, 115, 105, 100, 101]⟩, .string (bs (Lib.itoa y.has))] 9)).alloc (.cells #[.slice (some ⟨w1.heap.size, 0, none⟩) 2 2] 22) = W2 from hW2]
  clear hW2 K2 HX1 q1
  generalize w1.heap.size + 1 = v at *
  obtain ⟨L0, hL0⟩ : ∃ z, z = [[98, 101, 115, 105, 100, 101], Lib.itoa y.has] := ⟨_, rfl⟩
  have hn0 : L0.length = 2 := by rw [hL0]; rfl
  rw [← hL0] at B2
  have HL0 := Lib.hid hL0
  clear hL0
  have f8 : W2.cell? ⟨w.heap.size, 8, none⟩ = some (.int .i64 y.value.tag) := by rw [Lib.cell_of_heap B2.out.box]; rfl
  have f9 : W2.cell? ⟨w.heap.size, 9, none⟩ = some (.string (bs y.value.text)) := by rw [Lib.cell_of_heap B2.out.box]; rfl
  have f10 : W2.cell? ⟨w.heap.size, 10, none⟩ = some (.int .u64 y.value.bits) := by rw [Lib.cell_of_heap B2.out.box]; rfl
  have f11 : W2.cell? ⟨w.heap.size, 11, none⟩ = some (.string (bs y.value.cls)) := by rw [Lib.cell_of_heap B2.out.box]; rfl
  have f12 : W2.cell? ⟨w.heap.size, 12, none⟩ = some (.string (bs y.value.name)) := by rw [Lib.cell_of_heap B2.out.box]; rfl
  have f13 : W2.cell? ⟨w.heap.size, 13, none⟩ = some (.string (bs y.value.desc)) := by rw [Lib.cell_of_heap B2.out.box]; rfl
  have hq := (Array.getElem?_eq_some_iff.1 B2.out.box).1
  have CV := Lib.hid (value_any y.value.li W2 HOK.out (tab_below HT.out B2.out.below))
  go_upto_region 3 with fail
  go_upto_region 4 with fail
  refine CV.out.mono ?_
  rintro e w3 ⟨rfl, hb3⟩
  have B3 := Lib.hid (B2.out.grow hb3)
  clear hb3 CV B2 hq f8 f9 f10 f11 f12 f13
  have k4 := (Below.refl w3.heap.size w3).alloc (Nat.le_refl _) (.cells #[.string ⟨#[118, 97, 108, 117, 101]⟩, .string (bs (Li.value y.value.li))] 9)
  have CP4 := Lib.hid (put_any w _ v 2 (some ⟨w3.heap.size, 0, none⟩) _ L0 [[118, 97, 108, 117, 101], Li.value y.value.li] (B3.out.grow k4) 2 y.has (txt_new (heap_alloc_new w3 (.cells #[.string ⟨#[118, 97, 108, 117, 101]⟩, .string (bs (Li.value y.value.li))] 9)) [[118, 97, 108, 117, 101], Li.value y.value.li] rfl) rfl (by simp only [List.length_cons, List.length_nil]; omega))
  clear k4
  go_upto_region 4 with fail
  refine CP4.out.mono ?_
  rintro e w4 ⟨rfl, hB4⟩
  clear CP4 B3
  obtain ⟨L1, hL1⟩ : ∃ z, z = L0 ++ if hasB y.has 2 then [[118, 97, 108, 117, 101], Li.value y.value.li] else [] := ⟨_, rfl⟩
  have hn4 : L1.length ≤ 4 := by rw [hL1]; exact Nat.le_trans (bes_app _ _ _) (by simp only [List.length_cons, List.length_nil]; omega)
  rw [← hL1] at hB4
  have HL1 := Lib.hid hL1
  clear hL1
  have B4 := Lib.hid hB4
  clear hB4
  have k5 := (Below.refl w4.heap.size w4).alloc (Nat.le_refl _) (.cells #[.string ⟨#[116, 104, 114, 111, 119, 115]⟩] 9)
  have CP5 := Lib.hid (put_any w _ v 1 (some ⟨w4.heap.size, 0, none⟩) _ L1 [[116, 104, 114, 111, 119, 115]] (B4.out.grow k5) 8 y.has (txt_new (heap_alloc_new w4 (.cells #[.string ⟨#[116, 104, 114, 111, 119, 115]⟩] 9)) [[116, 104, 114, 111, 119, 115]] rfl) rfl (by simp only [List.length_cons, List.length_nil]; omega))
  clear k5
  go_upto_region 4 with fail
  go_upto_region 5 with fail
  refine CP5.out.mono ?_
  rintro e w5 ⟨rfl, hB5⟩
  clear CP5 B4
  obtain ⟨L2, hL2⟩ : ∃ z, z = L1 ++ if hasB y.has 8 then [[116, 104, 114, 111, 119, 115]] else [] := ⟨_, rfl⟩
  have hn5 : L2.length ≤ 5 := by rw [hL2]; exact Nat.le_trans (bes_app _ _ _) (by simp only [List.length_cons, List.length_nil]; omega)
  rw [← hL2] at hB5
  have HL2 := Lib.hid hL2
  clear hL2
  have B5 := Lib.hid hB5
  clear hB5
  have f14 : w5.cell? ⟨w.heap.size, 14, none⟩ = some (.slice C4 y.throws.length e4) := by rw [Lib.cell_of_heap B5.out.box]; rfl
  have hq := (Array.getElem?_eq_some_iff.1 B5.out.box).1
  go_upto_region 5 with fail
  go_upto_region 6 with fail
  clear f14 hq
  go_loopw [24] (fun uu wr => ∃ i : Nat, i ≤ y.throws.length ∧ uu = .int .i64 i ∧ Bsd w v #[.int .i64 y.has, .int .i64 y.code.stack, .int .i64 y.code.locals, .slice C0 y.code.ops.length e0, .slice C1 y.code.handlers.length e1, .int .i64 y.code.has, .slice C2 y.code.lines.length e2, .slice C3 y.code.slots.length e3, .int .i64 y.value.tag, .string (bs y.value.text), .int .u64 y.value.bits, .string (bs y.value.cls), .string (bs y.value.name), .string (bs y.value.desc), .slice C4 y.throws.length e4, .slice C5 y.inners.length e5, .string (bs y.signature), .string (bs y.source)] (L2 ++ if hasB y.has 8 then (y.throws.take i).map Li.or else []) wr) (fun uu _ => y.throws.length - (intOf uu).toNat)
  case atStart => exact ⟨0, Nat.zero_le _, rfl, by simpa using B5.out⟩
  case round =>
    obtain ⟨i, hil, rfl, hB⟩ := hrel
    have B6 := Lib.hid hB
    clear hB
    by_cases h1 : i < y.throws.length
    · as_aux_lemma =>
      obtain ⟨g, og, x, rfl, hgw, hx, hc⟩ := HTS.out.at_ h1
      have hxl := HTL.out x (List.mem_of_getElem? hx)
      have hc2 : wr.cell? ⟨g, og + i, none⟩ = some (.string (bs x)) := by rw [World.cell?_of_block (B6.out.below.block g hgw)]; exact hc
      have hgr : g < wr.heap.size := Nat.lt_of_lt_of_le hgw B6.out.below.size
      have hsn := Lib.hid (show (y.throws.take (i + 1)).map Li.or = (y.throws.take i).map Li.or ++ [Li.or x] by rw [take_snocI _ _ _ hx, List.map_append]; rfl)
      obtain ⟨L3, hL3⟩ : ∃ z, z = L2 ++ if hasB y.has 8 then (y.throws.take i).map Li.or else [] := ⟨_, rfl⟩
      have hn6 : L3.length ≤ 5 + y.throws.length := by rw [hL3]; refine Nat.le_trans (bes_app _ _ _) ?_; rw [List.length_map, List.length_take]; omega
      rw [← hL3] at B6
      have HL3 := Lib.hid hL3
      clear hL3 hc
      have CO := Lib.hid (or_any x wr hxl)
      go_upto_region 8 with fail
      go_upto_region 9 with fail
      refine CO.out.mono ?_
      rintro e w7 ⟨rfl, hb7⟩
      have B7 := Lib.hid (B6.out.grow hb7)
      clear hb7 CO B6 hc2 hgr
      have k8 := (Below.refl w7.heap.size w7).alloc (Nat.le_refl _) (.cells #[.string (bs (Li.or x))] 9)
      have CP8 := Lib.hid (put_any w _ v 1 (some ⟨w7.heap.size, 0, none⟩) _ L3 [Li.or x] (B7.out.grow k8) 8 y.has (txt_new (heap_alloc_new w7 (.cells #[.string (bs (Li.or x))] 9)) [Li.or x] rfl) rfl (by simp only [List.length_cons, List.length_nil]; omega))
      clear k8
      go_upto_region 9 with fail
      refine CP8.out.mono ?_
      rintro e w8 ⟨rfl, hB8⟩
      clear CP8 B7
      rw [HL3.out, bes_step, ← hsn.out] at hB8
      have B8 := Lib.hid hB8
      clear hB8
      go_wp2_with fail
      refine ⟨⟨i + 1, h1, rfl, B8.out⟩, ?_⟩
      exact less_next h1
    · as_aux_lemma =>
      have hie : i = y.throws.length := by omega
      subst hie
      rw [List.take_length] at B6
      obtain ⟨L3, hL3⟩ : ∃ z, z = L2 ++ if hasB y.has 8 then y.throws.map Li.or else [] := ⟨_, rfl⟩
      have hn6 : L3.length ≤ 5 + y.throws.length := by rw [hL3]; refine Nat.le_trans (bes_app _ _ _) ?_; rw [List.length_map]; omega
      rw [← hL3] at B6
      have HL3 := Lib.hid hL3
      clear hL3
      have f16 : wr.cell? ⟨w.heap.size, 16, none⟩ = some (.string (bs y.signature)) := by rw [Lib.cell_of_heap B6.out.box]; rfl
      have hq := (Array.getElem?_eq_some_iff.1 B6.out.box).1
      have CO := Lib.hid (or_any y.signature wr hsg)
      go_upto_region 10 with fail
      go_upto_region 11 with fail
      refine CO.out.mono ?_
      rintro e w7 ⟨rfl, hb⟩
      have B7 := Lib.hid (B6.out.grow hb)
      clear hb CO B6 f16 hq
      have k8 := (Below.refl w7.heap.size w7).alloc (Nat.le_refl _) (.cells #[.string ⟨#[115, 105, 103, 110, 97, 116, 117, 114, 101]⟩, .string (bs (Li.or y.signature))] 9)
      have CP8 := Lib.hid (put_any w _ v 2 (some ⟨w7.heap.size, 0, none⟩) _ L3 [[115, 105, 103, 110, 97, 116, 117, 114, 101], Li.or y.signature] (B7.out.grow k8) 32 y.has (txt_new (heap_alloc_new w7 (.cells #[.string ⟨#[115, 105, 103, 110, 97, 116, 117, 114, 101]⟩, .string (bs (Li.or y.signature))] 9)) [[115, 105, 103, 110, 97, 116, 117, 114, 101], Li.or y.signature] rfl) rfl (by simp only [List.length_cons, List.length_nil]; omega))
      clear k8
      go_upto_region 11 with fail
      refine CP8.out.mono ?_
      rintro e w8 ⟨rfl, hB8⟩
      clear CP8 B7
      obtain ⟨L4, hL4⟩ : ∃ z, z = L3 ++ if hasB y.has 32 then [[115, 105, 103, 110, 97, 116, 117, 114, 101], Li.or y.signature] else [] := ⟨_, rfl⟩
      have hn8 : L4.length ≤ 7 + y.throws.length := by rw [hL4]; exact Nat.le_trans (bes_app _ _ _) (by simp only [List.length_cons, List.length_nil]; omega)
      rw [← hL4] at hB8
      have HL4 := Lib.hid hL4
      clear hL4
      have B8 := Lib.hid hB8
      clear hB8
      have f17 : w8.cell? ⟨w.heap.size, 17, none⟩ = some (.string (bs y.source)) := by rw [Lib.cell_of_heap B8.out.box]; rfl
      have hq := (Array.getElem?_eq_some_iff.1 B8.out.box).1
      have CO := Lib.hid (or_any y.source w8 hsc)
      go_upto_region 11 with fail
      go_upto_region 12 with fail
      refine CO.out.mono ?_
      rintro e w9 ⟨rfl, hb⟩
      have B9 := Lib.hid (B8.out.grow hb)
      clear hb CO B8 f17 hq
      have k10 := (Below.refl w9.heap.size w9).alloc (Nat.le_refl _) (.cells #[.string ⟨#[115, 111, 117, 114, 99, 101]⟩, .string (bs (Li.or y.source))] 9)
      have CP10 := Lib.hid (put_any w _ v 2 (some ⟨w9.heap.size, 0, none⟩) _ L4 [[115, 111, 117, 114, 99, 101], Li.or y.source] (B9.out.grow k10) 64 y.has (txt_new (heap_alloc_new w9 (.cells #[.string ⟨#[115, 111, 117, 114, 99, 101]⟩, .string (bs (Li.or y.source))] 9)) [[115, 111, 117, 114, 99, 101], Li.or y.source] rfl) rfl (by simp only [List.length_cons, List.length_nil]; omega))
      clear k10
      go_upto_region 12 with fail
      refine CP10.out.mono ?_
      rintro e w10 ⟨rfl, hB10⟩
      clear CP10 B9
      obtain ⟨L5, hL5⟩ : ∃ z, z = L4 ++ if hasB y.has 64 then [[115, 111, 117, 114, 99, 101], Li.or y.source] else [] := ⟨_, rfl⟩
      have hn10 : L5.length ≤ 9 + y.throws.length := by rw [hL5]; exact Nat.le_trans (bes_app _ _ _) (by simp only [List.length_cons, List.length_nil]; omega)
      rw [← hL5] at hB10
      have HL5 := Lib.hid hL5
      clear hL5
      have B10 := Lib.hid hB10
      clear hB10
      have HE := Lib.hid (show L5 = Li.besideL y by rw [HL5.out, HL4.out, HL3.out, HL2.out, HL1.out, HL0.out]; exact bes_whole y)
      obtain ⟨g1, g2, g3, vS, g4, g5⟩ := B10.out
      rw [HE.out] at g5
      have c0 : w10.cell? ⟨v, 0, none⟩ = some vS := by rw [Lib.cell_of_heap g4]; rfl
      have CL := Lib.hid (line_row g5 (by omega) HLN.out)
      have G1 := Lib.hid g1
      clear g1 g2 g3 g4 g5
      go_wp2_with fail
      refine CL.out.mono ?_
      rintro e w11 ⟨rfl, hb11⟩
      have J := Lib.hid (G1.out.trans (hb11.mono G1.out.size))
      clear hb11 CL c0
      go_wp2_with fail
      go_ret
      exact ⟨rfl, J.out⟩
end Go.Proofs.YtpjafbinlklojaaDoor
