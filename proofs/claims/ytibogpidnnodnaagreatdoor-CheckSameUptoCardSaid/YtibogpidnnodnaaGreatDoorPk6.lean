/- Joined texts: Parts, OrdL, ChkC, ChkD, ChkE, ChkF, ChkG, ChkH, ChkI. -/
import Derived.Test.YtibogpidnnodnaaGreatDoorPk5
import Derived.Test.YtibogpidnnodnaaGreatDoorPk1
import Derived.Test.YtibogpidnnodnaaGreatDoorPk4
/- Rows of structs as sources and as own rows: members, appended. -/
namespace Go.Proofs.YtibogpidnnodnaaGreatDoor
open Go.RowKit Go.Deep

/-- All cells of things, one behind the other. -/
def Parts {Y : Type} (size : Nat) (R : List Value → Y → Prop) (ys : List Y) (news : List Value) : Prop :=
  news.length = ys.length * size ∧ ∀ (j : Nat) y, ys[j]? = some y → ∃ cs : List Value, R cs y ∧ cs.length = size ∧ ∀ (k : Nat) u, cs[k]? = some u → news[j * size + k]? = some u
section
variable {Y : Type} {size : Nat} {R : List Value → Y → Prop}
theorem Parts.nil : Parts size R [] [] := ⟨by simp, fun j y h => by simp at h⟩
theorem Parts.app {ys zs : List Y} {a b : List Value} (h : Parts size R ys a) (k : Parts size R zs b) : Parts size R (ys ++ zs) (a ++ b) := by
  refine ⟨by rw [List.length_append, List.length_append, h.1, k.1, Nat.add_mul], fun j y hy => ?_⟩
  by_cases hj : j < ys.length
  · rw [List.getElem?_append_left hj] at hy
    obtain ⟨cs, h1, h2, h3⟩ := h.2 j y hy
    refine ⟨cs, h1, h2, fun q u hu => ?_⟩
    have hq := h3 q u hu
    rw [List.getElem?_append_left (List.getElem?_eq_some_iff.1 hq).1]
    exact hq
  · rw [List.getElem?_append_right (by omega)] at hy
    obtain ⟨cs, h1, h2, h3⟩ := k.2 _ y hy
    refine ⟨cs, h1, h2, fun q u hu => ?_⟩
    have hq := h3 q u hu
    have e : j * size + q = ys.length * size + ((j - ys.length) * size + q) := by
      rw [← Nat.add_assoc, ← Nat.add_mul, Nat.add_sub_cancel' (by omega)]
    rw [e, List.getElem?_append_right (by rw [h.1]; omega), h.1, Nat.add_sub_cancel_left]
    exact hq
theorem flat_get {α : Type} {size : Nat} : ∀ (L : List (List α)), (∀ l ∈ L, l.length = size) → L.flatten.length = L.length * size ∧ ∀ (j : Nat) l, L[j]? = some l → ∀ (k : Nat) u, l[k]? = some u → L.flatten[j * size + k]? = some u
  | [], _ => ⟨by simp, fun j l h => by simp at h⟩
  | a :: L, h => by
    obtain ⟨h1, h2⟩ := flat_get L (fun l hl => h l (List.mem_cons_of_mem _ hl))
    have ha := h a (List.mem_cons_self ..)
    refine ⟨by rw [List.flatten_cons, List.length_append, h1, ha, List.length_cons, Nat.add_mul, Nat.one_mul, Nat.add_comm], fun j l hl k u hu => ?_⟩
    rw [List.flatten_cons]
    cases j with
    | zero =>
      obtain rfl : a = l := by simpa using hl
      rw [Nat.zero_mul, Nat.zero_add, List.getElem?_append_left (List.getElem?_eq_some_iff.1 hu).1]
      exact hu
    | succ j =>
      rw [show (j + 1) * size + k = size + (j * size + k) by rw [Nat.add_mul, Nat.one_mul]; omega, List.getElem?_append_right (by omega), ha, Nat.add_sub_cancel_left]
      exact h2 j l (by simpa using hl) k u hu
/-- What is read as a row of things, as a source. -/
theorem Sl.parts {P : Program} {t e : TypeId} {RW : World → List Value → Y → Prop} {w : World} {A : Option Addr} {c : Nat} {ys : List Y} (h : Sl size RW w A c ys) (h0 : 0 < size) (hk : P.underlying t = some (.slice e))
    (hone : ∀ cs y, RW w cs y → ∀ u ∈ cs, u.oneCell' = true) : ∃ news, Parts size (RW w) ys news ∧ ∀ x, Below w.heap.size w x → Src P size t (.slice A ys.length c) ys.length news x := by
  cases hy : ys with
  | nil =>
    refine ⟨[], Parts.nil, fun x _ => ?_⟩
    cases A with
    | none => exact Src.ofNil x hk c
    | some a => exact Src.ofSlice x hk a 0 c [] (by simp) (fun j u hu => by simp at hu) (fun u hu => by cases hu)
  | cons y0 rest =>
    rw [← hy]
    obtain ⟨g, o, rfl, hg, hc⟩ := h.2 (by rw [hy]; simp)
    have hf : ∀ j : Nat, ∃ cs : List Value, ∀ y, ys[j]? = some y → RW w cs y ∧ cs.length = size ∧ CellsAt w g (o + j * size) cs := fun j => by
      cases hj : ys[j]? with
      | none => exact ⟨[], fun y hy => by cases hy⟩
      | some y =>
        obtain ⟨cs, h1⟩ := hc j y hj
        exact ⟨cs, fun y' hy' => by cases hy'; exact h1⟩
    obtain ⟨f, hf⟩ := Classical.axiomOfChoice hf
    have hL : ∀ l ∈ (List.range ys.length).map f, l.length = size := fun l hl => by
      obtain ⟨j, hj, rfl⟩ := List.mem_map.1 hl
      have hj' := List.mem_range.1 hj
      exact (hf j _ (List.getElem?_eq_getElem hj')).2.1
    obtain ⟨hl, hat⟩ := flat_get _ hL
    rw [List.length_map, List.length_range] at hl
    have hm : ∀ j, j < ys.length → ((List.range ys.length).map f)[j]? = some (f j) := fun j hj => by
      rw [List.getElem?_map, List.getElem?_range hj]
      rfl
    refine ⟨((List.range ys.length).map f).flatten, ⟨hl, fun j y hy => ?_⟩, fun x hx => Src.ofSlice x hk ⟨g, o, none⟩ _ c _ hl (fun j u hu => ?_) (fun u hu => ?_)⟩
    · have hj := (List.getElem?_eq_some_iff.1 hy).1
      exact ⟨f j, (hf j y hy).1, (hf j y hy).2.1, fun k u hu => hat j _ (hm j hj) k u hu⟩
    · rw [addr_plus]
      have hj := (List.getElem?_eq_some_iff.1 hu).1
      rw [hl] at hj
      have hd : j / size < ys.length := Nat.div_lt_of_lt_mul (by rw [Nat.mul_comm]; exact hj)
      obtain ⟨_, h2, h3⟩ := hf (j / size) _ (List.getElem?_eq_getElem hd)
      have hk2 : j % size < (f (j / size)).length := by rw [h2]; exact Nat.mod_lt _ h0
      have hv := hat (j / size) _ (hm _ hd) (j % size) _ (List.getElem?_eq_getElem hk2)
      rw [show j / size * size + j % size = j by rw [Nat.mul_comm]; exact Nat.div_add_mod j size] at hv
      rw [hu] at hv
      obtain rfl := Option.some.inj hv
      have := (h3.grow hx hg) _ _ (List.getElem?_eq_getElem hk2)
      rw [show o + j / size * size + j % size = o + j by rw [Nat.add_assoc, Nat.mul_comm]; rw [Nat.div_add_mod j size]] at this
      exact this
    · obtain ⟨l, hl1, hl2⟩ := List.mem_flatten.1 hu
      obtain ⟨j, hj, rfl⟩ := List.mem_map.1 hl1
      have hj' := List.mem_range.1 hj
      exact hone _ _ (hf j _ (List.getElem?_eq_getElem hj')).1 u hl2
/-- An own row of things. -/
def PRow (e : TypeId) (size : Nat) (R : List Value → Y → Prop) (w : World) (base : Nat) (v : Value) (ys : List Y) : Prop := ∃ news, w.ownsRow base e size v ys.length news ∧ Parts size R ys news
/-- Where things of a block stand. -/
def PAt (e : TypeId) (size : Nat) (R : List Value → Y → Prop) (w : World) (A : Option Addr) (ys : List Y) : Prop :=
  0 < ys.length → ∃ g o C, A = some ⟨g, o, none⟩ ∧ w.heap[g]? = some (.cells C e (0, 0)) ∧ ∀ (j : Nat) y, ys[j]? = some y → ∃ cs : List Value, R cs y ∧ cs.length = size ∧ ∀ (k : Nat) u, cs[k]? = some u → C[o + j * size + k]? = some u
theorem PRow.grow {e : TypeId} {w w1 : World} {base : Nat} {v : Value} {ys : List Y} (h : PRow e size R w base v ys) (k : Below w.heap.size w w1) : PRow e size R w1 base v ys := by
  obtain ⟨news, h1, h2⟩ := h
  exact ⟨news, own_below h1 k, h2⟩
theorem PRow.base_le {e : TypeId} {w : World} {base : Nat} {v : Value} {ys : List Y} (h : PRow e size R w base v ys) {k : Nat} (hk : v.ownBlock = some k) : base ≤ k := by
  obtain ⟨news, h1, _⟩ := h
  exact (World.ownsRow.lt h1 k hk).1
theorem prow_fresh {e : TypeId} {x : World} {B base : Nat} (h : x.heap[B]? = some (.cells #[] e (0, 0))) (hb : base ≤ B) : PRow e size R x base (.slice (some ⟨B, 0, none⟩) 0 0) [] :=
  ⟨[], ⟨by simp, .inr ⟨B, 0, #[], rfl, hb, h, Nat.le_refl _, by unfold maxLen; omega, by simp, by simp⟩⟩, Parts.nil⟩
theorem PRow.reads {e : TypeId} {w : World} {base : Nat} {v : Value} {ys : List Y} (h : PRow e size R w base v ys) : ∃ A c, v = .slice A ys.length c ∧ PAt e size R w A ys := by
  obtain ⟨news, ⟨hl, ho⟩, hp⟩ := h
  rcases ho with ⟨rfl, hn⟩ | ⟨g, cap, cur, rfl, _, hg, _, _, _, ht⟩
  · exact ⟨none, 0, by rw [hn], fun h => by omega⟩
  · refine ⟨_, _, rfl, fun _ => ⟨g, 0, cur, rfl, hg, fun j y hy => ?_⟩⟩
    obtain ⟨cs, h1, h2, h3⟩ := hp.2 j y hy
    refine ⟨cs, h1, h2, fun k u hu => ?_⟩
    have h4 := h3 k u hu
    rw [← ht, List.getElem?_take] at h4
    split at h4
    · rw [Nat.zero_add, ← Array.getElem?_toList]
      exact h4
    · cases h4
theorem PAt.at_ {e : TypeId} {w : World} {A : Option Addr} {ys : List Y} (h : PAt e size R w A ys) {i : Nat} (hi : i < ys.length) :
    ∃ g o C y cs, A = some ⟨g, o, none⟩ ∧ w.heap[g]? = some (.cells C e (0, 0)) ∧ ys[i]? = some y ∧ R cs y ∧ cs.length = size ∧ (∀ (w' : World), w'.heap[g]? = some (.cells C e (0, 0)) → CellsAt w' g (o + i * size) cs) := by
  obtain ⟨g, o, C, hA, hg, hc⟩ := h (by omega)
  obtain ⟨cs, h1, h2, h3⟩ := hc i _ (List.getElem?_eq_getElem hi)
  refine ⟨g, o, C, _, cs, hA, hg, List.getElem?_eq_getElem hi, h1, h2, fun w' hw' k u hu => ?_⟩
  rw [Lib.cell_of_heap hw']
  exact h3 k u hu
end
theorem cellsAt_block {w : World} {g : Nat} {C : Array Value} {t : TypeId} {fr : Nat × Nat} (hg : w.heap[g]? = some (.cells C t fr)) (o n : Nat) : CellsAt w g o ((C.toList.drop o).take n) := fun k u hu => by
  rw [Lib.cell_of_heap hg, ← Array.getElem?_toList]
  rw [List.getElem?_take] at hu
  split at hu
  · rw [List.getElem?_drop] at hu
    exact hu
  · cases hu
/-- A struct read: all its cells at once. -/
theorem run_load_cells {P : Program} {o : Oper} {a : Act} {w : World} (ty : TypeId) (x : Operand) (ho : o.op = .load ty x) (g off : Nat) (hx : a.eval x = .pointer (some ⟨g, off, none⟩)) (cs : List Value) (hc : CellsAt w g off cs) (d : TypeDesc)
    (hu : P.underlying ty = some d) (hd : (match d with | .struct _ | .array _ _ => true | _ => false) = true) (hi : (P.info? ty).map (·.size) = some cs.length) : (execOp a.eval o).run P w = .ok (.value (.agg cs.toArray)) w := by
  have hl : (loadCells ⟨g, off, none⟩ cs.length).run P w = .ok cs.toArray w :=
    run_loadCells_list (P := P) w ⟨g, off, none⟩ cs (fun j v hv => by rw [addr_plus]; exact hc j v hv)
  have hv : (loadVar ty ⟨g, off, none⟩).run P w = .ok (.agg cs.toArray) w := by
    cases hq : P.info? ty with
    | none => simp [hq] at hi
    | some i =>
      have hs : i.size = cs.length := by simpa [hq] using hi
      have hagg : (isAgg ty).run P w = .ok true w := by
        unfold isAgg
        rw [Sem.run_bind, run_underlying hu w]
        cases d <;> simp_all
      simp [loadVar, Sem.run_bind, hagg, sizeOf, typeInfo, hq, hs, hl]
  unfold execOp
  simp only [ho, hx, Instr.loadAt, Instr.sureAddr, Sem.run_bind, Sem.run_pure, Result.andThen_ok, hv]
theorem wpList_load_cells {P : Program} {ops : Array Oper} {rest : List Oper} {o : Oper} {a : Act} {w : World} {Q : Exit → Act → World → Prop} (hgd : o.guard = none) (ty : TypeId) (x : Operand) (ho : o.op = .load ty x)
    (g off : Nat) (hx : a.eval x = .pointer (some ⟨g, off, none⟩)) (cs : List Value) (hc : CellsAt w g off cs) (d : TypeDesc)
    (hu : P.underlying ty = some d) (hd : (match d with | .struct _ | .array _ _ => true | _ => false) = true) (hi : (P.info? ty).map (·.size) = some cs.length)
    (h : wpList P ops Q rest (a.put o.dst (.agg cs.toArray)) w) : wpList P ops Q (o :: rest) a w :=
  wpList_plain hgd fun _ hK => by
    unfold Oper.wp
    rw [run_load_cells ty x ho g off hx cs hc d hu hd hi]
    exact hK _ _ h
/-- The same among operations that come in any order. -/
theorem wpLex_load {P : Program} {ops : Array Oper} {Q : Exit → Act → World → Prop} {w0 : World} {tail rest : List Oper} {o : Oper} {a : Act} {E : Env} (hw : Region.wanted o (yielded ops a.tmps) = true) (ty : TypeId) (x : Operand) (ho : o.op = .load ty x)
    (g off : Nat) (hx : a.eval x = .pointer (some ⟨g, off, none⟩)) (cs : List Value) (hc : CellsAt w0 g off cs) (hg : g < w0.heap.size) (d : TypeDesc)
    (hu : P.underlying ty = some d) (hd : (match d with | .struct _ | .array _ _ => true | _ => false) = true) (hi : (P.info? ty).map (·.size) = some cs.length)
    (h : wpLex P ops Q w0 tail rest E (a.put o.dst (.agg cs.toArray))) : wpLex P ops Q w0 tail (o :: rest) E a :=
  fun _ => ⟨.inl (.agg cs.toArray), .inl ⟨hw, fun y hy => by
    unfold Oper.quietAt
    rw [run_load_cells ty x ho g off hx cs (hc.grow hy.below hg) d hu hd hi]
    exact ⟨rfl, rfl⟩⟩, fun _ _ => h⟩
theorem setRow_alloc (w : World) (old cells : Array Value) (t : TypeId) : (w.alloc (.cells old t)).setRow w.heap.size cells = w.alloc (.cells cells t) := by
  have h := heap_alloc_new w (.cells old t)
  have hlt : w.heap.size < (w.alloc (.cells old t)).heap.size := (Array.getElem?_eq_some_iff.1 h).1
  have e : ∀ i : Nat, ((w.alloc (.cells old t)).setRow w.heap.size cells).heap[i]? = (w.alloc (.cells cells t)).heap[i]? := fun i => by
    by_cases hi : i = w.heap.size
    · subst hi
      rw [setRow_heap _ _ _ cells _ _ h, heap_alloc_new]
    · rw [setRow_other _ _ _ _ hi]
      by_cases h2 : i < w.heap.size
      · rw [heap_alloc_old _ _ h2, heap_alloc_old _ _ h2]
      · have s1 : (w.alloc (.cells old t)).heap.size = w.heap.size + 1 := by show (w.heap.push _).size = _; simp
        have s2 : (w.alloc (.cells cells t)).heap.size = w.heap.size + 1 := by show (w.heap.push _).size = _; simp
        rw [Array.getElem?_eq_none (by omega), Array.getElem?_eq_none (by omega)]
  have e2 : ((w.alloc (.cells old t)).setRow w.heap.size cells).heap = (w.alloc (.cells cells t)).heap := Array.ext_getElem? e
  cases w
  simp only [World.alloc, World.setRow] at e2 ⊢
  simp only [e2]
/-- A struct stored into its fresh variable. -/
theorem wpList_store_fresh {P : Program} {ops : Array Oper} {rest : List Oper} {o : Oper} {a : Act} {Q : Exit → Act → World → Prop} (hgd : o.guard = none) (ty : TypeId) (x y : Operand) (ho : o.op = .store ty x y)
    (w : World) (old : Array Value) (cs : List Value) (t : TypeId) (hx : a.eval x = .pointer (some ⟨w.heap.size, 0, none⟩)) (hy : a.eval y = .agg cs.toArray) (hi : (P.info? ty).map (·.size) = some cs.length)
    (hold : old.size = cs.length) (h1 : ∀ u ∈ cs, u.oneCell' = true)
    (h : wpList P ops Q rest (a.put o.dst undef) (w.alloc (.cells cs.toArray t))) : wpList P ops Q (o :: rest) a (w.alloc (.cells old t)) :=
  wpList_store_row hgd ty x y ho w.heap.size cs.toArray hx hy t old (heap_alloc_new w (.cells old t)) (by rw [hi, List.size_toArray]) (by rw [hold, List.size_toArray]) (Array.all_eq_true_iff_forall_mem.2 fun u hu => h1 u (by simpa using hu)) (by rw [setRow_alloc]; exact h)
theorem infoMbr0 : (Tryz.prog.info? 55).map (fun i => (i.zero.map (fun z => z.cells.size), i.size, i.bytes)) = some (some 21, 21, 328) := by kernel_rfl
theorem infoMbr : ∃ i0, Tryz.prog.info? 55 = some i0 ∧ ∃ z, i0.zero = some z ∧ i0.size = 21 ∧ i0.bytes = 328 ∧ z.cells.size = 21 := by
  have h := infoMbr0
  cases hi : Tryz.prog.info? 55 with
  | none => rw [hi] at h; cases h
  | some i0 =>
    rw [hi] at h
    simp only [Option.map_some, Option.some.injEq, Prod.mk.injEq] at h
    obtain ⟨h1, h2, h3⟩ := h
    cases hz : i0.zero with
    | none => rw [hz] at h1; cases h1
    | some z =>
      rw [hz] at h1
      exact ⟨i0, rfl, z, hz, h2, h3, by simpa using h1⟩
/-- At a step of a region that draws its order: members onto members. -/
theorem step_appM {R : List Value → Mbr → Prop} {w : World} {ops : Array Oper} {o : Oper} {a : Act} {K : Act → World → Prop} {Q : Exit → Act → World → Prop} {E : Prop} (hgd : o.guard = none) (s x : Operand)
    (ho : o.op = .call { callee := .builtin .append, args := #[s, x], argTypes := #[23, 23] })
    (base : Nat) (v : Value) (xs : List Mbr) (hv : a.eval s = v) (hown : PRow 55 21 R w base v xs) (X : Value) (ys : List Mbr) (hX : a.eval x = X)
    (hs : ∃ news, Parts 21 R ys news ∧ Src Tryz.prog 21 23 X ys.length news w) (hn : xs.length + ys.length ≤ 400000000) (hbase : base ≤ w.heap.size)
    (h : ∀ v' w', PRow 55 21 R w' base v' (xs ++ ys) → Hop w w' v.ownBlock v'.ownBlock → K (a.put o.dst v') w') :
    if Region.wanted o (yielded ops a.tmps) = true then Oper.wp Tryz.prog o a w K Q else E := by
  obtain ⟨i0, hi, z, hz, hz0, hz1, hz2⟩ := infoMbr
  obtain ⟨ns, hown, hp⟩ := hown
  obtain ⟨ms, hq, hs⟩ := hs
  refine step_append_row hgd s x 23 23 ho base 55 i0 z 21 328 Tryz.underlying23 hi hz hz0 hz1 hz2 v _ _ hv hown X ys.length ms hX (fun v' w' h1 h2 => h v' w' ⟨ns ++ ms, by rw [List.length_append]; exact h1, hp.app hq⟩ h2) hs ?_ ?_ hbase
  · unfold maxLen; omega
  · omega
end Go.Proofs.YtibogpidnnodnaaGreatDoor

/- As XOrder, where the tail waits for the head through longer chains. No program. -/
namespace Go.Proofs.YtibogpidnnodnaaGreatDoor
open Go.RowKit
section
variable {P : Program} {ops : Array Oper} {md : Region.Mode} {Q : Exit → Act → World → Prop} {w0 x y : World} {E F : Env}
def ordLateL (md : Region.Mode) (ops : Array Oper) (n : Nat) : Bool :=
  (List.range n).all fun i => (match ops[i]? with | some oi => lateB oi | none => false) || (List.range ops.size).all fun t => decide (t < n) || waitsT md ops 7 t i
def ordBL (md : Region.Mode) (ops : Array Oper) (n : Nat) : Bool :=
  Region.noSelect ops && decide (n ≤ ops.size) && ordLateL md ops n && ordHead md ops (ops.size - n) n 0 (Array.replicate ops.size false)
theorem ordLateL_spec {n : Nat} (h : ordLateL md ops n = true) {i : Nat} (hi : i < n) {oi : Oper} (hoi : ops[i]? = some oi) (t : Nat) (ot : Oper) (ht : n ≤ t) (hot : ops[t]? = some ot) :
    (∃ f, waitsT md ops f t i = true) ∨ lateB oi = true := by
  have h1 := List.all_eq_true.1 h i (List.mem_range.2 hi)
  simp only [hoi, Bool.or_eq_true] at h1
  rcases h1 with h1 | h1
  · exact .inr h1
  · have h2 := List.all_eq_true.1 h1 t (List.mem_range.2 (Array.getElem?_eq_some_iff.1 hot).1)
    simp only [Bool.or_eq_true, decide_eq_true_eq] at h2
    rcases h2 with h2 | h2
    · omega
    · exact .inl ⟨7, h2⟩
theorem AO.lexL {n g : Nat} {tail : List Oper} (hsel : Region.noSelect ops = true) (hQ : ∀ c a d v w, Q (.panic c) (a.put d v) w → Q (.panic c) a w) (hl : ordLateL md ops n = true) (htail : ∀ j, tail[j]? = ops[n + j]?) (hg : tail.length = g) :
    ∀ (l : List Oper) (k : Nat) (listed : Array Bool) (E : Env) (a : Act), Closed md ops listed → (∀ j, j < l.length → l[j]? = ops[k + j]?) → k + l.length = n → ordHead md ops g l.length k listed = true →
    wpLex P ops Q w0 tail l E a → AO P md ops Q w0 n g l.length listed E a
  | [], k, listed, E, a, _, _, hk, hB, h => by
    have hkn : k = n := by simpa using hk
    subst hkn
    simp only [List.length_nil, ordHead, Bool.and_eq_true] at hB
    refine fun w hw => ⟨fun j hj => by simpa using List.all_eq_true.1 hB.2 j hj, ?_⟩
    subst hg
    exact wpAny_of_seq tail k listed a w htail hB.1 (h w hw)
  | o :: l, k, listed, E, a, hcl, hll, hk, hB, h => by
    simp only [List.length_cons] at hk
    simp only [List.length_cons, ordHead, Bool.and_eq_true] at hB
    have h0 : ops[k]? = some o := by simpa using (hll 0 (by simp)).symm
    by_cases hne : ∃ x, Cl w0 E x
    · obtain ⟨kd, hr, hrest⟩ := h hne
      refine AO.first h0 (by omega) (Region.noSelect_spec hsel) (fun c a v w => hQ c a o.dst v w) (fun t ot ht hot => ordLateL_spec hl (by omega) h0 t ot ht hot) l.length listed E a hcl (Region.free_spec h0 hB.1.2) (by simpa using hB.1.1) hr fun B hBB => ?_
      exact AO.lexL hsel hQ hl htail hg l (k + 1) _ _ _ (hcl.set (by simpa using hB.1.1)) (fun j hj => by have := hll (j + 1) (by simp; omega); simpa [Nat.add_assoc, Nat.add_comm 1 j] using this) (by omega) hB.2 (hrest B hBB)
    · exact fun w hw => absurd ⟨w, hw⟩ hne

theorem wp_region_ordL {id : Nat} {a : Act} {w : World} {l : List Oper} (n : Nat) (hm : P.follows .mixedOrders = true) (hB : ordBL .any l.toArray n = true)
    (hQ : ∀ c a d v w, Q (.panic c) (a.put d v) w → Q (.panic c) a w)
    (h : wpLex P l.toArray Q w.drew (l.drop n) (l.take n) Env.none a) : (Code.region id l.toArray true).wp P Q a w := by
  simp only [ordBL, Bool.and_eq_true, decide_eq_true_eq] at hB
  obtain ⟨⟨⟨hsel, hn⟩, hl⟩, hh⟩ := hB
  have hn' : n ≤ l.length := by simpa using hn
  have htl : (l.take n).length = n := by simp; omega
  have hdl : (l.drop n).length = l.toArray.size - n := by simp
  have H := AO.lexL (md := .any) (g := l.toArray.size - n) hsel hQ hl (fun j => by simp [List.getElem?_drop]) hdl (l.take n) 0 _ Env.none a (Closed.none _) (fun j hj => by
    have hj' : j < n := by rw [htl] at hj; exact hj
    simp [hj']) (by simpa using htl) (by rw [htl]; exact hh) h
  refine wp_region_any hm ?_
  have := AO.any _ _ _ _ w.drew H ⟨Below.refl _ _, fun s B o e => e.elim⟩
  rw [htl, show n + (l.toArray.size - n) = l.toArray.size by omega] at this
  exact this

end
end Go.Proofs.YtibogpidnnodnaaGreatDoor

/- check's attrs, of what is said of nothing: parts. -/
namespace Go.Proofs.YtibogpidnnodnaaGreatDoor
open Go.RowKit Go.Deep

/-- What is said beside of nothing: its cells. -/
abbrev Z7 : List Value := [.int .i64 0, .int .i64 0, .slice none 0 0, .slice none 0 0, .int .i64 0, .slice none 0 0, .slice none 0 0]
abbrev Z18 : List Value := [.int .i64 0, .int .i64 0, .int .i64 0, .slice none 0 0, .slice none 0 0, .int .i64 0, .slice none 0 0, .slice none 0 0, .int .i64 0, .string ⟨#[]⟩, .int .u64 0, .string ⟨#[]⟩, .string ⟨#[]⟩, .string ⟨#[]⟩, .slice none 0 0, .slice none 0 0, .string ⟨#[]⟩, .string ⟨#[]⟩]
set_option maxRecDepth 100000 in
theorem nothing_zero (w : World) : Calls Tryz.prog 56 #[.agg #[.int .i64 0, .int .i64 0, .slice none 0 0, .slice none 0 0, .int .i64 0, .slice none 0 0, .slice none 0 0]] w fun e w' => e = .returned (.bool true) ∧ Below w.heap.size w w' := by
  have k1 := (Below.refl w.heap.size w).alloc (Nat.le_refl _) (.cells #[.int .i64 0, .int .i64 0, .slice none 0 0, .slice none 0 0, .int .i64 0, .slice none 0 0, .slice none 0 0] 29)
  have X := Lib.hid (heap_alloc_new w (.cells #[.int .i64 0, .int .i64 0, .slice none 0 0, .slice none 0 0, .int .i64 0, .slice none 0 0, .slice none 0 0] 29))
  have K := Lib.hid k1
  clear k1
  go_enter Tryz.func56, Tryz.ntmps56
  go_upto_region 1 with fail
  generalize w.alloc (.cells #[.int .i64 0, .int .i64 0, .slice none 0 0, .slice none 0 0, .int .i64 0, .slice none 0 0, .slice none 0 0] 29) = W at X K ⊢
  obtain ⟨f1, f2⟩ := blk_facts X.out
  go_wp2_with fail
  go_ret
  exact ⟨rfl, K.out⟩
set_option maxRecDepth 100000 in
theorem lacks_zero (bit : Int) (b : Bool) (hbit : bit = 1 ∨ bit = 2 ∨ bit = 8 ∨ bit = 16 ∨ bit = 32 ∨ bit = 64) (g : Nat) (w : World) (hg : w.cell? ⟨g, 0, none⟩ = some (.int .i64 0)) (_hz : g < w.heap.size) :
    Calls Tryz.prog 54 #[.int .i64 bit, .bool b, .pointer (some ⟨g, 0, none⟩)] w fun e w' => e = .returned (.bool b) ∧ Below w.heap.size w w' := by
  rcases hbit with rfl | rfl | rfl | rfl | rfl | rfl <;>
  · go_enter Tryz.func54, Tryz.ntmps54
    go_wp2_with fail
    go_ret
    exact ⟨rfl, Below.refl _ _⟩
/-- Rules that stand in a block. -/
theorem rules_blk {x : World} {B : Nat} (rs : List Rul) {C : Array Value} {fr : Nat × Nat} (hB : x.heap[B]? = some (.cells C 62 fr)) (hC : C.toList = rs.flatMap fun r => [.bool r.h, .int .i64 r.e]) (hn : rs.length ≤ 1000) :
    Calls Tryz.prog 18 #[.slice (some ⟨B, 0, none⟩) rs.length rs.length] x fun e w' => e = .returned (.int .i64 (rulE rs)) ∧ Below x.heap.size x w' := by
  refine rules_any _ _ rs x ⟨Nat.le_refl _, fun _ => ⟨B, 0, rfl, (Array.getElem?_eq_some_iff.1 hB).1, fun j r hr => ?_⟩⟩ hn
  refine ⟨[.bool r.h, .int .i64 r.e], rfl, rfl, fun k u hu => ?_⟩
  rw [Lib.cell_of_heap hB, ← Array.getElem?_toList, hC]
  have h := (flat_get (size := 2) (rs.map fun r => ([.bool r.h, .int .i64 r.e] : List Value)) (fun l hl => by obtain ⟨r, _, rfl⟩ := List.mem_map.1 hl; rfl)).2 j [.bool r.h, .int .i64 r.e] (by rw [List.getElem?_map, hr]; rfl) k u hu
  rw [show rs.flatMap (fun r => ([.bool r.h, .int .i64 r.e] : List Value)) = (rs.map fun r => ([.bool r.h, .int .i64 r.e] : List Value)).flatten from rfl, Nat.zero_add]
  exact h
set_option maxHeartbeats 8000000 in
set_option maxRecDepth 100000 in
theorem attrs2_zero (g gm gl : Nat) (may : Int) (w : World) (hg : w.heap[g]? = some (.cells Z18.toArray 35 (0, 0))) (hm : w.cell? ⟨gm, 0, none⟩ = some (.int .i64 may)) (hmz : gm < w.heap.size) (hmay : may = 244 ∨ may = 0) (hl : w.cell? ⟨gl, 0, none⟩ = some (.func (.func 54) #[] #[.pointer (some ⟨g, 0, none⟩)])) (hlz : gl < w.heap.size) :
    Calls Tryz.prog 55 #[.pointer (some ⟨g, 0, none⟩), .pointer (some ⟨gm, 0, none⟩), .pointer (some ⟨gl, 0, none⟩)] w fun e w' => e = .returned (.int .i64 0) ∧ Below w.heap.size w w' := by
  have hz := (Array.getElem?_eq_some_iff.1 hg).1
  obtain ⟨f1, f2⟩ := blk_facts hg
  have heq := fun q => eq_val ⟨0, [], 0, [], [], []⟩ ⟨0, [], 0, [], [], []⟩ q
  unfold vv at heq
  rw [decide_eq_true rfl] at heq
  have z1d : g < w.drew.heap.size := hz
  have z2d : gm < w.drew.heap.size := hmz
  have z3d : gl < w.drew.heap.size := hlz
  have hE : (bs [] : ByteArray) = ⟨#[]⟩ := rfl
  rw [hE] at heq
  have hmd : w.drew.cell? ⟨gm, 0, none⟩ = some (.int .i64 may) := hm
  have hld : w.drew.cell? ⟨gl, 0, none⟩ = some (.func (.func 54) #[] #[.pointer (some ⟨g, 0, none⟩)]) := hl
  have hcd : w.drew.cell? ⟨g, 0, none⟩ = some (.int .i64 0) := by rw [Lib.cell_of_heap (w := w.drew) hg]; rfl
  have HCD := Lib.hid hcd
  clear hE hz hmz hlz hcd
  have hb0 : (bits BinOp.andNot .i64 0 may == 0) = true := by rcases hmay with rfl | rfl <;> rfl
  clear hmay
  go_enter Tryz.func55, Tryz.ntmps55
  go_upto_region 1 with fail
  refine wp_region_ord 51 (by kernel_rfl) (by kernel_rfl) (fun _ _ d _ _ h => by cases d <;> exact h) ?_
  simp only [List.take_succ_cons, List.take_zero, List.drop_succ_cons, List.drop_zero]
  repeat (first | (refine wpLex_skip rfl ?_; simp only [Act.put, List.setIfInBounds_toArray, List.set_cons_zero, List.set_cons_succ]) | (refine wpLex_fix rfl ?_; intro F hF R hR hne K hK; go_big_quiet_op; first | (go_big_quiet_on; clear hne hR R hF F) | (apply Exists.intro; refine ⟨fun g => ?_, ?_⟩; (((first | (rw [GrE.cell g _ _ z1d]; go_simp; first | exact ⟨rfl, rfl⟩ | rfl) | (go_simp; (repeat (simp only [GrE.cell g _ _ z1d, GrE.cell g _ _ z2d, GrE.cell g _ _ z3d]; go_simp)); first | exact ⟨rfl, rfl⟩ | rfl) | (go_at_call 56; exact GrE.call hR (nothing_zero _)) | (go_at_call 54; exact GrE.call hR (lacks_zero _ _ (by simp) _ _ (by rw [GrE.cell g _ _ z1d]; exact HCD.out) (Nat.lt_of_lt_of_le z1d (GrE.below g).size))) | (go_at_call 18; exact GrE.call hR (rules_blk [⟨true, 11⟩, ⟨true, 2⟩, ⟨true, 2⟩] (GrE.blk g (hF.out _ _ _ (by decide) (.inr ⟨rfl, rfl, rfl⟩))) rfl (by decide)))))); go_big_quiet_on; clear hne hR R hF F)) | (apply wpLex_blk rfl; (focus (intro x hx; go_simp; exact ⟨rfl, rfl⟩)); intro B hB; simp only [Act.put, blkVal, List.setIfInBounds_toArray, List.set_cons_zero, List.set_cons_succ]))
  refine wpLex_nil ?_
  intro w1 hw1
  have J := Lib.hid (Below.after' (Below.drew (Below.refl _ _)) hw1.below (Nat.le_refl _))
  clear hw1
  go_wp2_with fail
  go_ret
  exact ⟨rfl, J.out⟩
end Go.Proofs.YtibogpidnnodnaaGreatDoor

/- check's attrs, of what is said of nothing. -/
namespace Go.Proofs.YtibogpidnnodnaaGreatDoor
open Go.RowKit Go.Deep

set_option maxRecDepth 100000 in
theorem eachN_nil (fv : Value) (w : World) : Calls Tryz.prog 61 #[.slice none 0 0, fv] w fun e w' => e = .returned (.int .i64 0) ∧ Below w.heap.size w w' := by
  go_enter Tryz.func61, Tryz.ntmps61
  go_upto_region 2 with fail
  go_loopw [10] (fun s10 wr => s10 = .int .i64 0 ∧ Below w.heap.size w wr) (fun _ _ => 0)
  case atStart => exact ⟨rfl, Below.refl _ _⟩
  case round =>
    obtain ⟨rfl, hK⟩ := hrel
    have K := Lib.hid hK
    clear hK
    go_wp2_with fail
    go_ret
    exact ⟨rfl, K.out⟩
set_option maxRecDepth 100000 in
theorem eachM_nil (fv : Value) (w : World) : Calls Tryz.prog 26 #[.slice none 0 0, fv] w fun e w' => e = .returned (.int .i64 0) ∧ Below w.heap.size w w' := by
  go_enter Tryz.func26, Tryz.ntmps26
  go_upto_region 2 with fail
  go_loopw [10] (fun s10 wr => s10 = .int .i64 0 ∧ Below w.heap.size w wr) (fun _ _ => 0)
  case atStart => exact ⟨rfl, Below.refl _ _⟩
  case round =>
    obtain ⟨rfl, hK⟩ := hrel
    have K := Lib.hid hK
    clear hK
    go_wp2_with fail
    go_ret
    exact ⟨rfl, K.out⟩
set_option maxRecDepth 100000 in
theorem attrs3_zero (g : Nat) (w : World) (hg : w.heap[g]? = some (.cells Z18.toArray 35 (0, 0))) : Calls Tryz.prog 57 #[.pointer (some ⟨g, 0, none⟩)] w fun e w' => e = .returned (.int .i64 0) ∧ Below w.heap.size w w' := by
  have f0 : w.cell? ⟨g, 0, none⟩ = some (.int .i64 0) := by rw [Lib.cell_of_heap hg]; rfl
  have hz := (Array.getElem?_eq_some_iff.1 hg).1
  clear hg
  go_enter Tryz.func57, Tryz.ntmps57
  go_wp2_with fail
  go_ret
  exact ⟨rfl, Below.refl _ _⟩
set_option maxRecDepth 100000 in
theorem attrs7_zero (g : Nat) (p : Value) (w : World) (hg : w.heap[g]? = some (.cells Z18.toArray 35 (0, 0))) : Calls Tryz.prog 64 #[.pointer (some ⟨g, 0, none⟩), p] w fun e w' => e = .returned (.int .i64 0) ∧ Below w.heap.size w w' := by
  have f0 : w.cell? ⟨g, 0, none⟩ = some (.int .i64 0) := by rw [Lib.cell_of_heap hg]; rfl
  have hz := (Array.getElem?_eq_some_iff.1 hg).1
  clear hg
  go_enter Tryz.func64, Tryz.ntmps64
  go_wp2_with fail
  go_ret
  exact ⟨rfl, Below.refl _ _⟩
set_option maxRecDepth 100000 in
theorem attrs5_zero (g : Nat) (w : World) (hg : w.heap[g]? = some (.cells Z18.toArray 35 (0, 0))) : Calls Tryz.prog 60 #[.pointer (some ⟨g, 0, none⟩)] w fun e w' => e = .returned (.int .i64 0) ∧ Below w.heap.size w w' := by
  have f0 : w.cell? ⟨g, 15, none⟩ = some (.slice none 0 0) := by rw [Lib.cell_of_heap hg]; rfl
  have hz := (Array.getElem?_eq_some_iff.1 hg).1
  clear hg
  go_enter Tryz.func60, Tryz.ntmps60
  go_wp2_with fail
  refine (eachN_nil _ _).mono ?_
  rintro e w1 ⟨rfl, hb⟩
  have K := Lib.hid hb
  clear hb f0 hz
  go_wp2_with fail
  go_ret
  exact ⟨rfl, K.out⟩
set_option maxHeartbeats 4000000 in
set_option maxRecDepth 100000 in
theorem attrs6_zero (g : Nat) (w : World) (hg : w.heap[g]? = some (.cells Z18.toArray 35 (0, 0))) : Calls Tryz.prog 63 #[.pointer (some ⟨g, 0, none⟩)] w fun e w' => e = .returned (.int .i64 0) ∧ Below w.heap.size w w' := by
  have f0 : w.cell? ⟨g, 16, none⟩ = some (.string ⟨#[]⟩) := by rw [Lib.cell_of_heap hg]; rfl
  have f1 : w.cell? ⟨g, 17, none⟩ = some (.string ⟨#[]⟩) := by rw [Lib.cell_of_heap hg]; rfl
  have hz := (Array.getElem?_eq_some_iff.1 hg).1
  have HT := Lib.hid (fun x => show Calls Tryz.prog 10 #[.string ⟨#[]⟩] x fun e w' => e = .returned (.bool true) ∧ Below x.heap.size x w' from text_any [] x (by simp))
  go_enter Tryz.func63, Tryz.ntmps63
  go_wp2_with fail
  refine (HT.out w).mono ?_
  rintro e w1 ⟨rfl, hb⟩
  have f1 : w1.cell? ⟨g, 17, none⟩ = some (.string ⟨#[]⟩) := by rw [World.cell?_of_block (hb.block g hz), Lib.cell_of_heap hg]; rfl
  have hz1 : g < w1.heap.size := Nat.lt_of_lt_of_le hz hb.size
  have K := Lib.hid hb
  clear hb f0 hz hg
  go_wp2_with fail
  refine (HT.out w1).mono ?_
  rintro e w2 ⟨rfl, hb⟩
  have K2 := Lib.hid (K.out.trans (hb.mono K.out.size))
  clear hb f1 hz1 HT
  have k3 := (Below.refl w2.heap.size w2).alloc (Nat.le_refl _) (.cells #[.bool true, .int .i64 8] 62)
  have H3 := Lib.hid (rules_blk [⟨true, 8⟩] (heap_alloc_new w2 (.cells #[.bool true, .int .i64 8] 62)) rfl (by decide))
  have K3 := Lib.hid (K2.out.trans (k3.mono K2.out.size))
  clear k3
  go_wp2_with fail
  refine H3.out.mono ?_
  rintro e w4 ⟨rfl, hb⟩
  have K4 := Lib.hid (K3.out.trans (hb.mono K3.out.size))
  clear hb H3
  go_wp2_with fail
  go_ret
  exact ⟨rfl, K4.out⟩
set_option maxHeartbeats 8000000 in
set_option maxRecDepth 100000 in
theorem attrs4_zero (g : Nat) (w : World) (hg : w.heap[g]? = some (.cells Z18.toArray 35 (0, 0))) : Calls Tryz.prog 59 #[.pointer (some ⟨g, 0, none⟩)] w fun e w' => e = .returned (.int .i64 0) ∧ Below w.heap.size w w' := by
  have hz := (Array.getElem?_eq_some_iff.1 hg).1
  obtain ⟨f1, f2⟩ := blk_facts hg
  have z1d : g < w.drew.heap.size := hz
  have HA := Lib.hid (fun x => all_any none 0 [] 20 #[] (fun _ => true) (fun _ _ => by go_simp) x (Txt.nil x none 0) (by simp) (fun l hl => by cases hl))
  clear hz
  go_enter Tryz.func59, Tryz.ntmps59
  go_upto_region 1 with fail
  refine wp_region_ord 16 (by kernel_rfl) (by kernel_rfl) (fun _ _ d _ _ h => by cases d <;> exact h) ?_
  simp only [List.take_succ_cons, List.take_zero, List.drop_succ_cons, List.drop_zero]
  repeat (first | (refine wpLex_skip rfl ?_; simp only [Act.put, List.setIfInBounds_toArray, List.set_cons_zero, List.set_cons_succ]) | (refine wpLex_fix rfl ?_; intro F hF R hR hne K hK; go_big_quiet_op; first | (go_big_quiet_on; clear hne hR R hF F) | (apply Exists.intro; refine ⟨fun g => ?_, ?_⟩; (((first | (rw [GrE.cell g _ _ z1d]; go_simp; first | exact ⟨rfl, rfl⟩ | rfl) | (go_simp; (repeat (simp only [GrE.cell g _ _ z1d]; go_simp)); first | exact ⟨rfl, rfl⟩ | rfl) | (go_at_call 22; exact GrE.call hR (HA.out _)) | (go_at_call 18; exact GrE.call hR (rules_blk [⟨true, 4⟩, ⟨true, 8⟩, ⟨true, 4⟩] (GrE.blk g (hF.out _ _ _ (by decide) (.inr ⟨rfl, rfl, rfl⟩))) rfl (by decide)))))); go_big_quiet_on; clear hne hR R hF F)) | (apply wpLex_blk rfl; (focus (intro x hx; go_simp; exact ⟨rfl, rfl⟩)); intro B hB; simp only [Act.put, blkVal, List.setIfInBounds_toArray, List.set_cons_zero, List.set_cons_succ]))
  refine wpLex_nil ?_
  intro w1 hw1
  have J := Lib.hid (Below.after' (Below.drew (Below.refl _ _)) hw1.below (Nat.le_refl _))
  clear hw1
  go_wp2_with fail
  go_ret
  exact ⟨rfl, J.out⟩
/-- A row of steps in a block. -/
theorem sts_blk {w : World} {B : Nat} (ss : List Stp) {C : Array Value} {t : TypeId} {fr : Nat × Nat} (h : w.heap[B]? = some (.cells C t fr)) (hC : C.toList = ss.map Stp.val) : Sts w (some ⟨B, 0, none⟩) ss.length ss :=
  ⟨Nat.le_refl _, fun _ => ⟨B, 0, rfl, (Array.getElem?_eq_some_iff.1 h).1, fun j s hs => by
    rw [Nat.zero_add, Lib.cell_of_heap h, ← Array.getElem?_toList, hC, List.getElem?_map, hs]; rfl⟩⟩
set_option maxHeartbeats 8000000 in
set_option maxRecDepth 100000 in
theorem attrs_zero (may major : Int) (hmay : may = 244 ∨ may = 0) (w : World) : Calls Tryz.prog 24 #[.agg Z18.toArray, .int .i64 may, .int .i64 major] w fun e w' => e = .returned (.int .i64 0) ∧ Below w.heap.size w w' := by
  obtain ⟨W1, hW1⟩ : ∃ W1, W1 = w.alloc (.cells Z18.toArray 35) := ⟨_, rfl⟩
  obtain ⟨W2, hW2⟩ : ∃ W2, W2 = W1.alloc (.cells #[.int .i64 may] 3) := ⟨_, rfl⟩
  obtain ⟨W3, hW3⟩ : ∃ W3, W3 = W2.alloc (.cells #[.int .i64 major] 3) := ⟨_, rfl⟩
  have e1 : w.heap.size + 1 = W1.heap.size := by rw [hW1]; show _ = (w.heap.push _).size; simp
  have e2 : w.heap.size + 1 + 1 = W2.heap.size := by rw [hW2]; show _ = (W1.heap.push _).size; simp; omega
  have e3 : w.heap.size + 1 + 1 + 1 = W3.heap.size := by rw [hW3]; show _ = (W2.heap.push _).size; simp; omega
  have k1 : Below w.heap.size w W1 := by rw [hW1]; exact (Below.refl _ _).alloc (Nat.le_refl _) _
  have k2 : Below W1.heap.size W1 W2 := by rw [hW2]; exact (Below.refl _ _).alloc (Nat.le_refl _) _
  have k3 : Below W2.heap.size W2 W3 := by rw [hW3]; exact (Below.refl _ _).alloc (Nat.le_refl _) _
  have x1 : W1.heap[w.heap.size]? = some (.cells Z18.toArray 35 (0, 0)) := by rw [hW1]; exact heap_alloc_new _ _
  have x2 : W2.heap[w.heap.size + 1]? = some (.cells #[.int .i64 may] 3 (0, 0)) := by rw [e1, hW2]; exact heap_alloc_new _ _
  have x3 : W3.heap[w.heap.size + 1 + 1]? = some (.cells #[.int .i64 major] 3 (0, 0)) := by rw [e2, hW3]; exact heap_alloc_new _ _
  have y1 := Lib.hid (show W3.heap[w.heap.size]? = some (.cells Z18.toArray 35 (0, 0)) by rw [k3.block _ (by omega), k2.block _ (by omega)]; exact x1)
  have y2 := Lib.hid (show W3.heap[w.heap.size + 1]? = some (.cells #[.int .i64 may] 3 (0, 0)) by rw [k3.block _ (by omega)]; exact x2)
  have y3 := Lib.hid x3
  have K3 := Lib.hid (k1.trans ((k2.trans (k3.mono k2.size)).mono k1.size))
  have E3 := Lib.hid e3
  rw [hW2, hW1] at hW3
  clear k1 k2 k3 x1 x2 x3 e1 e2 e3 hW1 hW2
  go_enter Tryz.func24, Tryz.ntmps24
  go_upto_region 1 with fail
  rw [← hW3]
  clear hW3
  have k4 := (Below.refl W3.heap.size W3).alloc (Nat.le_refl _) (.cells #[.func (.func 54) #[] #[.pointer (some ⟨w.heap.size, 0, none⟩)]] 91)
  have x4 := Lib.hid (heap_alloc_new W3 (.cells #[.func (.func 54) #[] #[.pointer (some ⟨w.heap.size, 0, none⟩)]] 91))
  have hs4 := Lib.hid (show (W3.alloc (.cells #[.func (.func 54) #[] #[.pointer (some ⟨w.heap.size, 0, none⟩)]] 91)).heap.size = W3.heap.size + 1 by show (W3.heap.push _).size = _; simp)
  have z1 := Lib.hid ((k4.block _ (by have := E3.out; omega)).trans y1.out)
  have z2 := Lib.hid ((k4.block _ (by have := E3.out; omega)).trans y2.out)
  have K4 := Lib.hid (K3.out.trans (k4.mono K3.out.size))
  have hsf := fun (a : Addr) (f : Fn) (x y : Array Value) (q : World) => run_store Tryz.prog q a (.func f x y) .plain rfl
  obtain ⟨u1, u2⟩ := blk_facts (heap_alloc_new W3 (.cells #[.nilFunc] 91))
  clear k4
  go_upto_region 2 with fail
  clear hsf u1 u2
  generalize W3.alloc (.cells #[.func (.func 54) #[] #[.pointer (some ⟨w.heap.size, 0, none⟩)]] 91) = W4 at x4 hs4 z1 z2 K4 ⊢
  obtain ⟨ss, hss⟩ : ∃ ss : List Stp, ss = [⟨55, #[.pointer (some ⟨w.heap.size, 0, none⟩), .pointer (some ⟨w.heap.size + 1, 0, none⟩), .pointer (some ⟨W3.heap.size, 0, none⟩)], 0⟩, ⟨57, #[.pointer (some ⟨w.heap.size, 0, none⟩)], 0⟩, ⟨59, #[.pointer (some ⟨w.heap.size, 0, none⟩)], 0⟩, ⟨60, #[.pointer (some ⟨w.heap.size, 0, none⟩)], 0⟩, ⟨63, #[.pointer (some ⟨w.heap.size, 0, none⟩)], 0⟩, ⟨64, #[.pointer (some ⟨w.heap.size, 0, none⟩), .pointer (some ⟨w.heap.size + 1 + 1, 0, none⟩)], 0⟩] := ⟨_, rfl⟩
  have kS := (Below.refl W4.heap.size W4).alloc (Nat.le_refl _) (.cells (ss.map Stp.val).toArray 65)
  have xS := heap_alloc_new W4 (.cells (ss.map Stp.val).toArray 65)
  have b1 : w.heap.size < W4.heap.size := by have := E3.out; have := hs4.out; omega
  have b2 : w.heap.size + 1 < W4.heap.size := by have := E3.out; have := hs4.out; omega
  have b4 : W3.heap.size < W4.heap.size := by have := hs4.out; omega
  have v1 := (kS.block _ b1).trans z1.out
  have v2 := (kS.block _ b2).trans z2.out
  have v4 := (kS.block _ b4).trans x4.out
  have zS := kS.size
  have HS := Lib.hid (steps_any _ _ ss (W4.alloc (.cells (ss.map Stp.val).toArray 65)) (sts_blk ss xS (by simp)) (by rw [hss]; simp) (by
    intro i s hs _
    have u : ∀ w', Below (W4.alloc (.cells (ss.map Stp.val).toArray 65)).heap.size (W4.alloc (.cells (ss.map Stp.val).toArray 65)) w' → w'.heap[w.heap.size]? = some (.cells Z18.toArray 35 (0, 0)) := fun w' hw' => (hw'.block _ (by omega)).trans v1
    have hm := List.mem_of_getElem? hs
    rw [hss] at hm
    simp only [List.mem_cons, List.not_mem_nil, or_false] at hm
    rcases hm with rfl | rfl | rfl | rfl | rfl | rfl
    · exact ⟨fun _ _ => by go_simp, fun w' hw' => attrs2_zero _ _ _ may w' (u w' hw') (by rw [Lib.cell_of_heap ((hw'.block _ (by omega)).trans v2)]; rfl) (Nat.lt_of_lt_of_le (by omega) hw'.size) hmay (by rw [Lib.cell_of_heap ((hw'.block _ (by omega)).trans v4)]; rfl) (Nat.lt_of_lt_of_le (by omega) hw'.size)⟩
    · exact ⟨fun _ _ => by go_simp, fun w' hw' => attrs3_zero _ w' (u w' hw')⟩
    · exact ⟨fun _ _ => by go_simp, fun w' hw' => attrs4_zero _ w' (u w' hw')⟩
    · exact ⟨fun _ _ => by go_simp, fun w' hw' => attrs5_zero _ w' (u w' hw')⟩
    · exact ⟨fun _ _ => by go_simp, fun w' hw' => attrs6_zero _ w' (u w' hw')⟩
    · exact ⟨fun _ _ => by go_simp, fun w' hw' => attrs7_zero _ _ w' (u w' hw')⟩))
  have KS := Lib.hid (K4.out.trans (kS.mono K4.out.size))
  have HE := Lib.hid (show stpE ss = 0 by rw [hss]; rfl)
  rw [hss] at HS KS
  simp only [List.map_cons, List.map_nil, Stp.val, List.length_cons, List.length_nil, Nat.reduceAdd] at HS KS
  clear v1 v2 v4 kS xS zS b1 b2 b4 x4 hs4 z1 z2 K4 K3 E3 y1 y2 y3
  go_wp2_with fail
  refine HS.out.mono ?_
  rintro e w1 ⟨rfl, hb⟩
  have K5 := Lib.hid (KS.out.trans (hb.mono KS.out.size))
  clear hb HS KS
  go_wp2_with fail
  go_ret
  exact ⟨by rw [← hss, HE.out]; rfl, K5.out⟩
end Go.Proofs.YtibogpidnnodnaaGreatDoor

/- check's Class, of classes with a name alone. -/
namespace Go.Proofs.YtibogpidnnodnaaGreatDoor
open Go.RowKit Go.Deep

/-- A class with a name alone: its cells. -/
abbrev Z26 (major : Int) (A : Option Addr) (n c : Nat) : List Value := [.int .i64 0, .int .i64 major, .int .i64 0, .string ⟨#[65]⟩, .string ⟨#[]⟩, .slice A n c, .slice none 0 0, .slice none 0 0, .int .i64 0, .int .i64 0, .int .i64 0, .slice none 0 0, .slice none 0 0, .int .i64 0, .slice none 0 0, .slice none 0 0, .int .i64 0, .string ⟨#[]⟩, .int .u64 0, .string ⟨#[]⟩, .string ⟨#[]⟩, .string ⟨#[]⟩, .slice none 0 0, .slice none 0 0, .string ⟨#[]⟩, .string ⟨#[]⟩]
def ckCls (l : List UInt8) : Bool := decide (l.length ≤ 65535) && De.cls l
theorem small_blk {x : World} {B : Nat} (xs : List Int) {C : Array Value} {t : TypeId} {fr : Nat × Nat} (hB : x.heap[B]? = some (.cells C t fr)) (hC : C.toList = ic xs) (hn : xs.length ≤ 1000) :
    Calls Tryz.prog 19 #[.slice (some ⟨B, 0, none⟩) xs.length xs.length] x fun e w' => e = .returned (.bool (!xs.any Ck.big)) ∧ Below x.heap.size x w' := by
  refine small_any _ _ xs x ⟨Nat.le_refl _, fun _ => ⟨B, 0, rfl, (Array.getElem?_eq_some_iff.1 hB).1, fun j r hr => ?_⟩⟩ hn
  rw [Nat.zero_add, Lib.cell_of_heap hB, ← Array.getElem?_toList, hC]
  exact ic_get hr
theorem small_blk' {x : World} {B : Nat} (xs : List Int) (v : Bool) (hv : (!xs.any Ck.big) = v) {C : Array Value} {t : TypeId} {fr : Nat × Nat} (hB : x.heap[B]? = some (.cells C t fr)) (hC : C.toList = ic xs) (hn : xs.length ≤ 1000) :
    Calls Tryz.prog 19 #[.slice (some ⟨B, 0, none⟩) xs.length xs.length] x fun e w' => e = .returned (.bool v) ∧ Below x.heap.size x w' := by
  rw [← hv]
  exact small_blk xs hB hC hn
set_option maxHeartbeats 4000000 in
set_option maxRecDepth 100000 in
theorem cls2_49 (g : Nat) (A : Option Addr) (n c : Nat) (w : World) (hg : w.heap[g]? = some (.cells (Z26 49 A n c).toArray 37 (0, 0))) :
    Calls Tryz.prog 23 #[.pointer (some ⟨g, 0, none⟩)] w fun e w' => e = .returned (.int .i64 0) ∧ Below w.heap.size w w' := by
  have hz := (Array.getElem?_eq_some_iff.1 hg).1
  have HL := Lib.hid (show CellsAt w g 8 Z18 from cellsAt_block hg 8 18)
  have hcl : (Tryz.prog.info? 35).map (·.size) = some 18 := by kernel_rfl
  have f1 : w.cell? ⟨g, 1, none⟩ = some (.int .i64 49) := by rw [Lib.cell_of_heap hg]; rfl
  have H1 := Lib.hid (attrs_zero 244 49 (.inl rfl) w)
  clear hg
  go_enter Tryz.func23, Tryz.ntmps23
  go_wp2_with (refine wpList_load_cells rfl 35 _ rfl g 8 rfl _ HL.out _ Tryz.underlying35 rfl hcl ?_)
  refine H1.out.mono ?_
  rintro e w1 ⟨rfl, hb⟩
  have K := Lib.hid hb
  clear hb H1 HL f1 hz
  go_wp2_with fail
  go_ret
  exact ⟨rfl, K.out⟩
set_option maxHeartbeats 4000000 in
set_option maxRecDepth 100000 in
theorem cls3_nil (g : Nat) (w : World) (h6 : w.cell? ⟨g, 6, none⟩ = some (.slice none 0 0)) (_hz : g < w.heap.size) :
    Calls Tryz.prog 25 #[.pointer (some ⟨g, 0, none⟩)] w fun e w' => e = .returned (.int .i64 0) ∧ Below w.heap.size w w' := by
  go_enter Tryz.func25, Tryz.ntmps25
  go_wp2_with fail
  refine (eachM_nil _ _).mono ?_
  rintro e w1 ⟨rfl, hb⟩
  have K := Lib.hid hb
  clear hb h6 _hz
  go_wp2_with fail
  go_ret
  exact ⟨rfl, K.out⟩
set_option maxHeartbeats 4000000 in
set_option maxRecDepth 100000 in
theorem cls4_nil (g : Nat) (w : World) (h6 : w.cell? ⟨g, 7, none⟩ = some (.slice none 0 0)) (_hz : g < w.heap.size) :
    Calls Tryz.prog 29 #[.pointer (some ⟨g, 0, none⟩)] w fun e w' => e = .returned (.int .i64 0) ∧ Below w.heap.size w w' := by
  go_enter Tryz.func29, Tryz.ntmps29
  go_wp2_with fail
  refine (eachM_nil _ _).mono ?_
  rintro e w1 ⟨rfl, hb⟩
  have K := Lib.hid hb
  clear hb h6 _hz
  go_wp2_with fail
  go_ret
  exact ⟨rfl, K.out⟩
end Go.Proofs.YtibogpidnnodnaaGreatDoor

/- check's Class, of classes with a name alone: the first step. -/
namespace Go.Proofs.YtibogpidnnodnaaGreatDoor
open Go.RowKit Go.Deep

set_option maxHeartbeats 8000000 in
set_option maxRecDepth 100000 in
theorem cls1_49 (g : Nat) (A : Option Addr) (c : Nat) (xs : List (List UInt8)) (w : World) (hx : Txt w A c xs) (hn : xs.length ≤ 1000) (hl : ∀ l ∈ xs, l.length ≤ 1000) (hm : MaxP w) (hg : w.heap[g]? = some (.cells (Z26 49 A xs.length c).toArray 37 (0, 0))) :
    Calls Tryz.prog 17 #[.pointer (some ⟨g, 0, none⟩)] w fun e w' => e = .returned (.int .i64 (rulE [⟨true, 5⟩, ⟨xs.all ckCls, 8⟩, ⟨true, 4⟩])) ∧ Below w.heap.size w w' := by
  have hz := (Array.getElem?_eq_some_iff.1 hg).1
  obtain ⟨f1, f2⟩ := blk_facts hg
  have z1d : g < w.drew.heap.size := hz
  have HM := Lib.hid (max_below hm (Below.refl w.heap.size w).drew)
  have HC := Lib.hid (fun (x : World) (k : Below w.drew.heap.size w.drew x) => (show Calls Tryz.prog 20 #[.string ⟨#[65]⟩] x fun e w' => e = .returned (.bool true) ∧ Below x.heap.size x w' from chkClass_any [65] x (by simp) (max_below HM.out k)))
  have HO := Lib.hid (fun (x : World) (k : Below w.drew.heap.size w.drew x) => (show Calls Tryz.prog 21 #[.string ⟨#[]⟩, .func (.func 20) #[] #[]] x fun e w' => e = .returned (.bool true) ∧ Below x.heap.size x w' from orF_any [] 20 #[] ckCls (fun _ _ => by go_simp) x (chkClass_any [] x (by simp) (max_below HM.out k))))
  have HA := Lib.hid (fun (x : World) (k : Below w.drew.heap.size w.drew x) => all_any A c xs 20 #[] ckCls (fun _ _ => by go_simp) x (hx.grow ((Below.refl w.heap.size w).drew.trans k)) (by omega) (fun l hl' w' k' => chkClass_any l w' (by have := hl l hl'; omega) (max_below (max_below HM.out k) k')))
  have HN := Lib.hid (show (!([(xs.length : Int), 0, 0] : List Int).any Ck.big) = true by simp only [List.any_cons, List.any_nil, Ck.big]; rw [decide_eq_false (by omega), decide_eq_false (by omega)]; rfl)
  clear hz hx hl hm hn
  go_enter Tryz.func17, Tryz.ntmps17
  go_upto_region 1 with fail
  refine wp_region_ord 45 (by kernel_rfl) (by kernel_rfl) (fun _ _ d _ _ h => by cases d <;> exact h) ?_
  simp only [List.take_succ_cons, List.take_zero, List.drop_succ_cons, List.drop_zero]
  repeat (first | (refine wpLex_skip rfl ?_; simp only [Act.put, List.setIfInBounds_toArray, List.set_cons_zero, List.set_cons_succ]) | (refine wpLex_fix rfl ?_; intro F hF R hR hne K hK; go_big_quiet_op; first | (go_big_quiet_on; clear hne hR R hF F) | (apply Exists.intro; refine ⟨fun g => ?_, ?_⟩; (((first | (rw [GrE.cell g _ _ z1d]; go_simp; first | exact ⟨rfl, rfl⟩ | rfl) | (go_simp; (repeat (simp only [GrE.cell g _ _ z1d]; go_simp)); first | exact ⟨rfl, rfl⟩ | rfl) | (go_at_call 20; exact GrE.call hR (HC.out _ (GrE.below g))) | (go_at_call 21; exact GrE.call hR (HO.out _ (GrE.below g))) | (go_at_call 22; exact GrE.call hR (HA.out _ (GrE.below g))) | (go_at_call 19; have hq := hF.out 42 _ _ (by decide) (.inr ⟨rfl, rfl, rfl⟩); exact GrE.call hR (small_blk' [(xs.length : Int), 0, 0] true HN.out (GrE.blk g hq) rfl (by simp))) | (go_at_call 19; have hq := hF.out 15 _ _ (by decide) (.inr ⟨rfl, rfl, rfl⟩); exact GrE.call hR (small_blk' [0, 0] true rfl (GrE.blk g hq) rfl (by decide))) | (go_at_call 18; exact GrE.call hR (rules_blk [⟨true, 5⟩, ⟨xs.all ckCls, 8⟩, ⟨true, 4⟩] (GrE.blk g (hF.out _ _ _ (by decide) (.inr ⟨rfl, rfl, rfl⟩))) rfl (by simp)))))); go_big_quiet_on; clear hne hR R hF F)) | (apply wpLex_blk rfl; (focus (intro x hx; go_simp; exact ⟨rfl, rfl⟩)); intro B hB; simp only [Act.put, blkVal, List.setIfInBounds_toArray, List.set_cons_zero, List.set_cons_succ]))
  refine wpLex_nil ?_
  intro w1 hw1
  have J := Lib.hid (Below.after' (Below.drew (Below.refl _ _)) hw1.below (Nat.le_refl _))
  clear hw1
  go_wp2_with fail
  go_ret
  exact ⟨rfl, J.out⟩
end Go.Proofs.YtibogpidnnodnaaGreatDoor

/- check's Class, of classes with a name alone: the first step. -/
namespace Go.Proofs.YtibogpidnnodnaaGreatDoor
open Go.RowKit Go.Deep

set_option maxHeartbeats 8000000 in
set_option maxRecDepth 100000 in
theorem cls1_50 (g : Nat) (w : World) (hm : MaxP w) (hg : w.heap[g]? = some (.cells (Z26 50 none 0 0).toArray 37 (0, 0))) :
    Calls Tryz.prog 17 #[.pointer (some ⟨g, 0, none⟩)] w fun e w' => e = .returned (.int .i64 5) ∧ Below w.heap.size w w' := by
  have hz := (Array.getElem?_eq_some_iff.1 hg).1
  obtain ⟨f1, f2⟩ := blk_facts hg
  have z1d : g < w.drew.heap.size := hz
  have HM := Lib.hid (max_below hm (Below.refl w.heap.size w).drew)
  have HC := Lib.hid (fun (x : World) (k : Below w.drew.heap.size w.drew x) => (show Calls Tryz.prog 20 #[.string ⟨#[65]⟩] x fun e w' => e = .returned (.bool true) ∧ Below x.heap.size x w' from chkClass_any [65] x (by simp) (max_below HM.out k)))
  have HO := Lib.hid (fun (x : World) (k : Below w.drew.heap.size w.drew x) => (show Calls Tryz.prog 21 #[.string ⟨#[]⟩, .func (.func 20) #[] #[]] x fun e w' => e = .returned (.bool true) ∧ Below x.heap.size x w' from orF_any [] 20 #[] ckCls (fun _ _ => by go_simp) x (chkClass_any [] x (by simp) (max_below HM.out k))))
  have HA := Lib.hid (fun (x : World) => all_any none 0 [] 20 #[] ckCls (fun _ _ => by go_simp) x (Txt.nil x none 0) (by simp) (fun l hl' => by cases hl'))
  clear hz hm
  go_enter Tryz.func17, Tryz.ntmps17
  go_upto_region 1 with fail
  refine wp_region_ord 45 (by kernel_rfl) (by kernel_rfl) (fun _ _ d _ _ h => by cases d <;> exact h) ?_
  simp only [List.take_succ_cons, List.take_zero, List.drop_succ_cons, List.drop_zero]
  repeat (first | (refine wpLex_skip rfl ?_; simp only [Act.put, List.setIfInBounds_toArray, List.set_cons_zero, List.set_cons_succ]) | (refine wpLex_fix rfl ?_; intro F hF R hR hne K hK; go_big_quiet_op; first | (go_big_quiet_on; clear hne hR R hF F) | (apply Exists.intro; refine ⟨fun g => ?_, ?_⟩; (((first | (rw [GrE.cell g _ _ z1d]; go_simp; first | exact ⟨rfl, rfl⟩ | rfl) | (go_simp; (repeat (simp only [GrE.cell g _ _ z1d]; go_simp)); first | exact ⟨rfl, rfl⟩ | rfl) | (go_at_call 20; exact GrE.call hR (HC.out _ (GrE.below g))) | (go_at_call 21; exact GrE.call hR (HO.out _ (GrE.below g))) | (go_at_call 22; exact GrE.call hR (HA.out _)) | (go_at_call 19; exact GrE.call hR (small_blk' [0, 0, 0] true rfl (GrE.blk g (hF.out _ _ _ (by decide) (.inr ⟨rfl, rfl, rfl⟩))) rfl (by decide))) | (go_at_call 18; exact GrE.call hR (rules_blk [⟨false, 5⟩, ⟨true, 8⟩, ⟨true, 4⟩] (GrE.blk g (hF.out _ _ _ (by decide) (.inr ⟨rfl, rfl, rfl⟩))) rfl (by decide)))))); go_big_quiet_on; clear hne hR R hF F)) | (apply wpLex_blk rfl; (focus (intro x hx; go_simp; exact ⟨rfl, rfl⟩)); intro B hB; simp only [Act.put, blkVal, List.setIfInBounds_toArray, List.set_cons_zero, List.set_cons_succ]))
  refine wpLex_nil ?_
  intro w1 hw1
  have J := Lib.hid (Below.after' (Below.drew (Below.refl _ _)) hw1.below (Nat.le_refl _))
  clear hw1
  go_wp2_with fail
  go_ret
  exact ⟨rfl, J.out⟩
end Go.Proofs.YtibogpidnnodnaaGreatDoor

/- check's Class, of classes with a name alone. -/
namespace Go.Proofs.YtibogpidnnodnaaGreatDoor
open Go.RowKit Go.Deep

set_option maxHeartbeats 8000000 in
set_option maxRecDepth 100000 in
theorem ckClass_of (major : Int) (A : Option Addr) (n c : Nat) (r : Int) (w : World)
    (h1 : ∀ g w', Below w.heap.size w w' → w'.heap[g]? = some (.cells (Z26 major A n c).toArray 37 (0, 0)) → Calls Tryz.prog 17 #[.pointer (some ⟨g, 0, none⟩)] w' fun e w'' => e = .returned (.int .i64 r) ∧ Below w'.heap.size w' w'')
    (h2 : r = 0 → major = 49) :
    Calls Tryz.prog 8 #[.agg (Z26 major A n c).toArray] w fun e w' => e = .returned (.int .i64 r) ∧ Below w.heap.size w w' := by
  obtain ⟨W1, hW1⟩ : ∃ W1, W1 = w.alloc (.cells (Z26 major A n c).toArray 37) := ⟨_, rfl⟩
  have e1 : w.heap.size < W1.heap.size := by rw [hW1]; show _ < (w.heap.push _).size; simp
  have K1 := Lib.hid (show Below w.heap.size w W1 by rw [hW1]; exact (Below.refl _ _).alloc (Nat.le_refl _) _)
  have x1 : W1.heap[w.heap.size]? = some (.cells (Z26 major A n c).toArray 37 (0, 0)) := by rw [hW1]; exact heap_alloc_new _ _
  obtain ⟨ss, hss⟩ : ∃ ss : List Stp, ss = [⟨17, #[.pointer (some ⟨w.heap.size, 0, none⟩)], r⟩, ⟨23, #[.pointer (some ⟨w.heap.size, 0, none⟩)], 0⟩, ⟨25, #[.pointer (some ⟨w.heap.size, 0, none⟩)], 0⟩, ⟨29, #[.pointer (some ⟨w.heap.size, 0, none⟩)], 0⟩] := ⟨_, rfl⟩
  have kS := (Below.refl W1.heap.size W1).alloc (Nat.le_refl _) (.cells (ss.map Stp.val).toArray 65)
  have xS := heap_alloc_new W1 (.cells (ss.map Stp.val).toArray 65)
  have v1 := (kS.block _ e1).trans x1
  have zS := kS.size
  have HS := Lib.hid (steps_any _ _ ss (W1.alloc (.cells (ss.map Stp.val).toArray 65)) (sts_blk ss xS (by simp)) (by rw [hss]; simp) (by
    intro i s hs hall
    have u : ∀ w', Below (W1.alloc (.cells (ss.map Stp.val).toArray 65)).heap.size (W1.alloc (.cells (ss.map Stp.val).toArray 65)) w' → w'.heap[w.heap.size]? = some (.cells (Z26 major A n c).toArray 37 (0, 0)) := fun w' hw' => (hw'.block _ (by omega)).trans v1
    rw [hss] at hs hall
    rcases i with _ | i
    · obtain rfl : s = ⟨17, #[.pointer (some ⟨w.heap.size, 0, none⟩)], r⟩ := by simpa using hs.symm
      exact ⟨fun _ _ => by go_simp, fun w' hw' => h1 _ w' (K1.out.trans ((kS.trans (hw'.mono kS.size)).mono K1.out.size)) (u w' hw')⟩
    · have hr : r = 0 := hall ⟨17, #[.pointer (some ⟨w.heap.size, 0, none⟩)], r⟩ (by simp)
      obtain rfl := h2 hr
      have hm : s ∈ ([⟨23, #[.pointer (some ⟨w.heap.size, 0, none⟩)], 0⟩, ⟨25, #[.pointer (some ⟨w.heap.size, 0, none⟩)], 0⟩, ⟨29, #[.pointer (some ⟨w.heap.size, 0, none⟩)], 0⟩] : List Stp) := List.mem_of_getElem? (i := i) (by simpa using hs)
      simp only [List.mem_cons, List.not_mem_nil, or_false] at hm
      rcases hm with rfl | rfl | rfl
      · exact ⟨fun _ _ => by go_simp, fun w' hw' => cls2_49 _ A n c w' (u w' hw')⟩
      · exact ⟨fun _ _ => by go_simp, fun w' hw' => cls3_nil _ w' (by rw [Lib.cell_of_heap (u w' hw')]; rfl) (Array.getElem?_eq_some_iff.1 (u w' hw')).1⟩
      · exact ⟨fun _ _ => by go_simp, fun w' hw' => cls4_nil _ w' (by rw [Lib.cell_of_heap (u w' hw')]; rfl) (Array.getElem?_eq_some_iff.1 (u w' hw')).1⟩))
  have KS := Lib.hid (K1.out.trans (kS.mono K1.out.size))
  have HE := Lib.hid (show stpE ss = r by rw [hss]; simp only [stpE]; by_cases h : r = 0 <;> simp [h])
  rw [hss] at HS KS
  simp only [List.map_cons, List.map_nil, Stp.val, List.length_cons, List.length_nil, Nat.reduceAdd] at HS KS
  clear v1 kS xS zS e1 x1 h1 h2
  go_enter Tryz.func8, Tryz.ntmps8
  go_upto_region 1 with fail
  rw [← hW1]
  clear hW1
  go_wp2_with fail
  refine HS.out.mono ?_
  rintro e w1 ⟨rfl, hb⟩
  have K5 := Lib.hid (KS.out.trans (hb.mono KS.out.size))
  clear hb HS KS
  go_wp2_with fail
  go_ret
  exact ⟨by rw [← hss, HE.out]; rfl, K5.out⟩
theorem ckClass_49 (A : Option Addr) (c : Nat) (xs : List (List UInt8)) (w : World) (hx : Txt w A c xs) (hn : xs.length ≤ 1000) (hl : ∀ l ∈ xs, l.length ≤ 1000) (hm : MaxP w) :
    Calls Tryz.prog 8 #[.agg (Z26 49 A xs.length c).toArray] w fun e w' => e = .returned (.int .i64 (rulE [⟨true, 5⟩, ⟨xs.all ckCls, 8⟩, ⟨true, 4⟩])) ∧ Below w.heap.size w w' :=
  ckClass_of 49 A xs.length c _ w (fun g w' k hg => cls1_49 g A c xs w' (hx.grow k) hn hl (max_below hm k) hg) (fun _ => rfl)
theorem ckClass_50 (w : World) (hm : MaxP w) :
    Calls Tryz.prog 8 #[.agg (Z26 50 none 0 0).toArray] w fun e w' => e = .returned (.int .i64 5) ∧ Below w.heap.size w w' :=
  ckClass_of 50 none 0 0 5 w (fun g w' k hg => cls1_50 g w' (max_below hm k) hg) (fun h => by cases h)
end Go.Proofs.YtibogpidnnodnaaGreatDoor

/- check's questions about an instruction, of instructions without anything. -/
namespace Go.Proofs.YtibogpidnnodnaaGreatDoor
open Go.RowKit Go.Deep

theorem bytes_of (l : List UInt8) (w : World) : ∃ (w2 : World) (cap : Nat) (C : Array Value) (fr : Nat × Nat), (convert 9 100 (.string (bs l))).run Tryz.prog w = .ok (.slice (some ⟨w.heap.size, 0, none⟩) l.length cap) w2 ∧ Below w.heap.size w w2 ∧ l.length ≤ cap ∧
    w.heap.size < w2.heap.size ∧ w2.heap[w.heap.size]? = some (.cells C 5 fr) ∧ ∀ (j : Nat) c, l[j]? = some c → C[j]? = some (.int .u8 (c.toNat : Int)) := by
  have h := run_bytes_of_string w 9 100 5 (bs l) Tryz.underlying9 Tryz.underlying100 Tryz.underlying5
  rw [bs_size] at h
  refine ⟨_, _, _, _, h, ?_, grownCap_ge _ _ _ _, ?_, heap_alloc_new _ _, ?_⟩
  · exact ((Below.refl w.heap.size w).drew).alloc (Nat.le_refl _) _
  · rw [World.size_alloc]; exact Nat.lt_succ_self _
  · intro j c hc
    obtain ⟨hj, hc⟩ := List.getElem?_eq_some_iff.1 hc
    have hj' : j < (bs l).data.size := by show j < l.toArray.size; simpa using hj
    have e := bytesRow_at (bs l) (grownCap w l.length 0 5) j hj'
    have this : (bs l).data[j]'hj' = c := by rw [← hc]; exact List.getElem_toArray ..
    rw [this] at e
    exact e
set_option maxRecDepth 100000 in
theorem in_any (v : UInt8) (l : List UInt8) (b : Bool) (hb : (l.any fun x => decide (v = x)) = b) (hl : l.length ≤ 1000) (w : World) :
    Calls Tryz.prog 33 #[.int .u8 (v.toNat : Int), .string (bs l)] w fun e w' => e = .returned (.bool b) ∧ Below w.heap.size w w' := by
  subst hb
  obtain ⟨w2, cap, C, fr, hcv, hb, hcap, hz, hh, hc⟩ := bytes_of l w
  have H1 := Lib.hid (conB_any v (some ⟨w.heap.size, 0, none⟩) cap l w2 ⟨hcap, fun _ => ⟨_, 0, rfl, hz, fun j x hx => by rw [Nat.zero_add, Lib.cell_of_heap hh]; exact hc j x hx⟩⟩ (by omega))
  have K := Lib.hid hb
  clear hb hcap hz hh hc hl
  go_enter Tryz.func33, Tryz.ntmps33
  go_wp2_with fail
  refine H1.out.mono ?_
  rintro e w3 ⟨rfl, hb⟩
  have K3 := Lib.hid (K.out.trans (hb.mono K.out.size))
  clear hb H1 hcv
  go_wp2_with fail
  go_ret
  exact ⟨rfl, K3.out⟩
/-- An instruction without anything but its opcode. -/
abbrev I12 (op : Int) : List Value := [.int .i64 op, .int .i64 0, .int .i64 0, .int .i64 0, .string ⟨#[]⟩, .int .u64 0, .string ⟨#[]⟩, .string ⟨#[]⟩, .string ⟨#[]⟩, .int .i64 0, .slice none 0 0, .slice none 0 0]
set_option maxHeartbeats 4000000 in
set_option maxRecDepth 100000 in
theorem keys_zero (op : Int) (v : UInt8) (hv : v = 45 ∨ v = 99) (w : World) :
    Calls Tryz.prog 72 #[.agg (I12 op).toArray, .int .u8 (v.toNat : Int)] w fun e w' => e = .returned (.bool true) ∧ Below w.heap.size w w' := by
  have k1 := (Below.refl w.heap.size w).alloc (Nat.le_refl _) (.cells (I12 op).toArray 46)
  have X := Lib.hid (heap_alloc_new w (.cells (I12 op).toArray 46))
  have K := Lib.hid k1
  have H1 := Lib.hid (fun x => show Calls Tryz.prog 33 #[.int .u8 (v.toNat : Int), .string ⟨#[116, 108]⟩] x fun e w' => e = .returned (.bool false) ∧ Below x.heap.size x w' from in_any v [116, 108] false (by rcases hv with rfl | rfl <;> rfl) (by simp) x)
  clear k1 hv
  go_enter Tryz.func72, Tryz.ntmps72
  go_upto_region 1 with fail
  generalize w.alloc (.cells (I12 op).toArray 46) = W at X K ⊢
  have f10 : W.cell? ⟨w.heap.size, 10, none⟩ = some (.slice none 0 0) := by rw [Lib.cell_of_heap X.out]; rfl
  have f11 : W.cell? ⟨w.heap.size, 11, none⟩ = some (.slice none 0 0) := by rw [Lib.cell_of_heap X.out]; rfl
  have fz := (Array.getElem?_eq_some_iff.1 X.out).1
  go_wp2_with fail
  refine (H1.out _).mono ?_
  rintro e w1 ⟨rfl, hb⟩
  have g10 : w1.cell? ⟨w.heap.size, 10, none⟩ = some (.slice none 0 0) := by rw [Lib.cell_of_heap ((hb.block _ fz).trans X.out)]; rfl
  have gz := Nat.lt_of_lt_of_le fz hb.size
  have K1 := Lib.hid (K.out.trans (hb.mono K.out.size))
  clear hb f10 f11 fz X K H1
  go_wp2_with fail
  go_ret
  exact ⟨rfl, K1.out⟩
set_option maxHeartbeats 8000000 in
set_option maxRecDepth 100000 in
theorem formed_zero (op : Int) (v : UInt8) (hv : v = 45 ∨ v = 99) (w : World) :
    Calls Tryz.prog 36 #[.agg (I12 op).toArray, .int .u8 (v.toNat : Int)] w fun e w' => e = .returned (.bool true) ∧ Below w.heap.size w w' := by
  have k1 := (Below.refl w.heap.size w).alloc (Nat.le_refl _) (.cells (I12 op).toArray 46)
  have X := Lib.hid (heap_alloc_new w (.cells (I12 op).toArray 46))
  have K := Lib.hid k1
  have H1 := Lib.hid (fun x => show Calls Tryz.prog 33 #[.int .u8 (v.toNat : Int), .string ⟨#[98, 115, 105]⟩] x fun e w' => e = .returned (.bool false) ∧ Below x.heap.size x w' from in_any v [98, 115, 105] false (by rcases hv with rfl | rfl <;> rfl) (by simp) x)
  have H2 := Lib.hid (fun x => show Calls Tryz.prog 33 #[.int .u8 (v.toNat : Int), .string ⟨#[118, 105, 102, 97, 109]⟩] x fun e w' => e = .returned (.bool false) ∧ Below x.heap.size x w' from in_any v [118, 105, 102, 97, 109] false (by rcases hv with rfl | rfl <;> rfl) (by simp) x)
  have H3 := Lib.hid (fun x => show Calls Tryz.prog 33 #[.int .u8 (v.toNat : Int), .string ⟨#[106, 119, 116, 108]⟩] x fun e w' => e = .returned (.bool false) ∧ Below x.heap.size x w' from in_any v [106, 119, 116, 108] false (by rcases hv with rfl | rfl <;> rfl) (by simp) x)
  have H4 := Lib.hid (fun x => keys_zero op v hv x)
  have hm : ((v.toNat : Int) != 109) = true := by rcases hv with rfl | rfl <;> rfl
  have ha : ((v.toNat : Int) != 97) = true := by rcases hv with rfl | rfl <;> rfl
  have hcl : (Tryz.prog.info? 46).map (·.size) = some 12 := by kernel_rfl
  clear k1 hv
  go_enter Tryz.func36, Tryz.ntmps36
  go_upto_region 1 with fail
  generalize w.alloc (.cells (I12 op).toArray 46) = W at X K ⊢
  go_wp2_with fail
  refine (H1.out _).mono ?_
  rintro e w1 ⟨rfl, hb⟩
  have X1 := Lib.hid ((hb.block _ (Array.getElem?_eq_some_iff.1 X.out).1).trans X.out)
  have K1 := Lib.hid (K.out.trans (hb.mono K.out.size))
  clear hb H1 X K
  have f2 : w1.cell? ⟨w.heap.size, 2, none⟩ = some (.int .i64 0) := by rw [Lib.cell_of_heap X1.out]; rfl
  have fz := (Array.getElem?_eq_some_iff.1 X1.out).1
  go_wp2_with fail
  refine (H2.out _).mono ?_
  rintro e w2 ⟨rfl, hb⟩
  have X2 := Lib.hid ((hb.block _ fz).trans X1.out)
  have K2 := Lib.hid (K1.out.trans (hb.mono K1.out.size))
  clear hb H2 X1 K1 f2 fz
  have f2 : w2.cell? ⟨w.heap.size, 1, none⟩ = some (.int .i64 0) := by rw [Lib.cell_of_heap X2.out]; rfl
  have fz := (Array.getElem?_eq_some_iff.1 X2.out).1
  go_wp2_with fail
  refine (H3.out _).mono ?_
  rintro e w3 ⟨rfl, hb⟩
  have X3 := Lib.hid ((hb.block _ fz).trans X2.out)
  have K3 := Lib.hid (K2.out.trans (hb.mono K2.out.size))
  clear hb H3 X2 K2 f2 fz
  obtain ⟨f2, f3⟩ := blk_facts X3.out
  have fz := (Array.getElem?_eq_some_iff.1 X3.out).1
  go_wp2_with fail
  refine (H4.out _).mono ?_
  rintro e w4 ⟨rfl, hb⟩
  have X4 := Lib.hid ((hb.block _ fz).trans X3.out)
  have K4 := Lib.hid (K3.out.trans (hb.mono K3.out.size))
  clear hb H4 X3 K3 f2 f3 fz
  go_wp2_with fail
  go_ret
  exact ⟨rfl, K4.out⟩
set_option maxHeartbeats 8000000 in
set_option maxRecDepth 100000 in
theorem ranged_zero (op : Int) (v : UInt8) (hv : v = 45 ∨ v = 99) (w : World) :
    Calls Tryz.prog 37 #[.agg (I12 op).toArray, .int .u8 (v.toNat : Int)] w fun e w' => e = .returned (.bool true) ∧ Below w.heap.size w w' := by
  have k1 := (Below.refl w.heap.size w).alloc (Nat.le_refl _) (.cells (I12 op).toArray 46)
  have X := Lib.hid (heap_alloc_new w (.cells (I12 op).toArray 46))
  have K := Lib.hid k1
  have H1 := Lib.hid (fun x => show Calls Tryz.prog 33 #[.int .u8 (v.toNat : Int), .string ⟨#[115, 105]⟩] x fun e w' => e = .returned (.bool false) ∧ Below x.heap.size x w' from in_any v [115, 105] false (by rcases hv with rfl | rfl <;> rfl) (by simp) x)
  have H2 := Lib.hid (fun x => show Calls Tryz.prog 33 #[.int .u8 (v.toNat : Int), .string ⟨#[118, 105, 102]⟩] x fun e w' => e = .returned (.bool false) ∧ Below x.heap.size x w' from in_any v [118, 105, 102] false (by rcases hv with rfl | rfl <;> rfl) (by simp) x)
  have H3 := Lib.hid (fun x (p : Value) => conFI_any 73 #[p] (fun _ => true) (fun _ _ => by go_simp) none 0 [] x (Ints.nil x none 0) (by simp) (fun x hx => by cases hx))
  have hm : ((v.toNat : Int) != 98) = true := by rcases hv with rfl | rfl <;> rfl
  clear k1 hv
  go_enter Tryz.func37, Tryz.ntmps37
  go_upto_region 1 with fail
  generalize w.alloc (.cells (I12 op).toArray 46) = W at X K ⊢
  have k4 := (Below.refl W.heap.size W).alloc (Nat.le_refl _) (.cells #[.func (.func 73) #[] #[]] 102)
  have X1 := Lib.hid ((k4.block _ (Array.getElem?_eq_some_iff.1 X.out).1).trans X.out)
  have K1 := Lib.hid (K.out.trans (k4.mono K.out.size))
  have hsf := fun (a : Addr) (f : Fn) (x y : Array Value) (q : World) => run_store Tryz.prog q a (.func f x y) .plain rfl
  obtain ⟨u1, u2⟩ := blk_facts (heap_alloc_new W (.cells #[.nilFunc] 102))
  clear k4 X K
  go_upto_region 2 with fail
  clear hsf u1 u2
  generalize W.alloc (.cells #[.func (.func 73) #[] #[]] 102) = W1 at X1 K1 ⊢
  go_wp2_with fail
  refine (H1.out _).mono ?_
  rintro e w2 ⟨rfl, hb⟩
  have X2 := Lib.hid ((hb.block _ (Array.getElem?_eq_some_iff.1 X1.out).1).trans X1.out)
  have K2 := Lib.hid (K1.out.trans (hb.mono K1.out.size))
  clear hb H1 X1 K1
  go_wp2_with fail
  refine (H2.out _).mono ?_
  rintro e w3 ⟨rfl, hb⟩
  have X3 := Lib.hid ((hb.block _ (Array.getElem?_eq_some_iff.1 X2.out).1).trans X2.out)
  have K3 := Lib.hid (K2.out.trans (hb.mono K2.out.size))
  clear hb H2 X2 K2
  have f10 : w3.cell? ⟨w.heap.size, 10, none⟩ = some (.slice none 0 0) := by rw [Lib.cell_of_heap X3.out]; rfl
  have fz := (Array.getElem?_eq_some_iff.1 X3.out).1
  have H5 := Lib.hid (fun x (fv : Value) (f : Nat) (cap : Array Value) (eg : ∀ args w, (callFunc f args).run Tryz.prog w = .ok (.enter f args) w) => conFI_any f cap (fun _ => true) eg none 0 [] x (Ints.nil x none 0) (by simp) (fun x hx => by cases hx))
  go_wp2_with fail
  refine (H5.out _ undef _ _ (fun _ _ => by go_simp)).mono ?_
  rintro e w4 ⟨rfl, hb⟩
  have K4 := Lib.hid (K3.out.trans (hb.mono K3.out.size))
  clear hb H5 X3 K3 f10 fz
  go_wp2_with fail
  go_ret
  exact ⟨rfl, K4.out⟩
set_option maxHeartbeats 4000000 in
set_option maxRecDepth 100000 in
theorem constant_zero (w : World) : Calls Tryz.prog 40 #[.agg #[.int .i64 0, .string ⟨#[]⟩, .int .u64 0, .string ⟨#[]⟩, .string ⟨#[]⟩, .string ⟨#[]⟩]] w fun e w' => e = .returned (.int .i64 0) ∧ Below w.heap.size w w' := by
  have k1 := (Below.refl w.heap.size w).alloc (Nat.le_refl _) (.cells #[.int .i64 0, .string ⟨#[]⟩, .int .u64 0, .string ⟨#[]⟩, .string ⟨#[]⟩, .string ⟨#[]⟩] 32)
  have X := Lib.hid (heap_alloc_new w (.cells #[.int .i64 0, .string ⟨#[]⟩, .int .u64 0, .string ⟨#[]⟩, .string ⟨#[]⟩, .string ⟨#[]⟩] 32))
  have K := Lib.hid k1
  have heq := fun q => eq_val ⟨0, [], 0, [], [], []⟩ ⟨0, [], 0, [], [], []⟩ q
  unfold vv at heq
  rw [decide_eq_true rfl] at heq
  have hE : (bs [] : ByteArray) = ⟨#[]⟩ := rfl
  rw [hE] at heq
  clear k1 hE
  go_enter Tryz.func40, Tryz.ntmps40
  go_upto_region 1 with fail
  generalize w.alloc (.cells #[.int .i64 0, .string ⟨#[]⟩, .int .u64 0, .string ⟨#[]⟩, .string ⟨#[]⟩, .string ⟨#[]⟩] 32) = W at X K ⊢
  obtain ⟨f1, f2⟩ := blk_facts X.out
  have fz := (Array.getElem?_eq_some_iff.1 X.out).1
  have k3 := (Below.refl W.heap.size W).alloc (Nat.le_refl _) (.cells #[.bool true, .int .i64 9] 62)
  have H3 := Lib.hid (rules_blk [⟨true, 9⟩] (heap_alloc_new W (.cells #[.bool true, .int .i64 9] 62)) rfl (by decide))
  have K3 := Lib.hid (K.out.trans (k3.mono K.out.size))
  clear k3 X K
  go_wp2_with fail
  refine H3.out.mono ?_
  rintro e w4 ⟨rfl, hb⟩
  have K4 := Lib.hid (K3.out.trans (hb.mono K3.out.size))
  clear hb H3 f1 f2 fz
  go_wp2_with fail
  go_ret
  exact ⟨rfl, K4.out⟩
set_option maxHeartbeats 4000000 in
set_option maxRecDepth 100000 in
theorem tags_none (op : Int) (hop : op = 177 ∨ op = 19) (w : World) : Calls Tryz.prog 39 #[.int .i64 op, .int .i64 49] w fun e w' => ∃ g, e = .returned (.slice (some ⟨g, 0, none⟩) 1 1) ∧ w.heap.size ≤ g ∧ w'.heap[g]? = some (.cells #[.int .i64 0] 3 (0, 0)) ∧ Below w.heap.size w w' := by
  obtain ⟨B, hB⟩ : ∃ B, B = w.alloc (.cells #[.int .i64 187, .int .i64 189, .int .i64 192, .int .i64 193, .int .i64 197] 3) := ⟨_, rfl⟩
  have hE := heap_alloc_new w (.cells #[.int .i64 187, .int .i64 189, .int .i64 192, .int .i64 193, .int .i64 197] 3)
  have k1 := (Below.refl w.heap.size w).alloc (Nat.le_refl _) (.cells #[.int .i64 187, .int .i64 189, .int .i64 192, .int .i64 193, .int .i64 197] 3)
  have H1 := Lib.hid (conI_any op (some ⟨w.heap.size, 0, none⟩) 5 [187, 189, 192, 193, 197] (w.alloc (.cells #[.int .i64 187, .int .i64 189, .int .i64 192, .int .i64 193, .int .i64 197] 3)) ⟨by simp, fun _ => ⟨_, 0, rfl, (Array.getElem?_eq_some_iff.1 hE).1, fun j x hx => by
    rw [Nat.zero_add, Lib.cell_of_heap hE, ← Array.getElem?_toList]
    exact ic_get hx⟩⟩ (by simp))
  have HF := Lib.hid (show ([187, 189, 192, 193, 197] : List Int).any (fun x => decide (op = x)) = false by rcases hop with rfl | rfl <;> rfl)
  have K1 := Lib.hid k1
  clear hB hE k1 B
  rcases hop with rfl | rfl <;>
  · go_enter Tryz.func39, Tryz.ntmps39
    go_wp2_with fail
    refine H1.out.mono ?_
    rintro e w1 ⟨rfl, hb⟩
    rw [HF.out]
    have k2 := hb.trans (((Below.refl w1.heap.size w1).alloc (Nat.le_refl _) (.cells #[.int .i64 0] 3)).mono hb.size)
    have K2 := Lib.hid (K1.out.trans (k2.mono K1.out.size))
    have E2 := Lib.hid (heap_alloc_new w1 (.cells #[.int .i64 0] 3))
    have z2 := Lib.hid (Nat.le_trans K1.out.size hb.size)
    clear hb k2 H1
    go_wp2_with fail
    go_ret
    exact ⟨_, rfl, z2.out, E2.out, K2.out⟩
end Go.Proofs.YtibogpidnnodnaaGreatDoor
