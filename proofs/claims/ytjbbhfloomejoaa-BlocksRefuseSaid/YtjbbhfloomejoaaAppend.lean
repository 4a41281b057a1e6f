/- append onto a row of the call's own, out of whatever source: the row's block, and what else has turned. No program. -/
import Derived.Test.YtjbbhfloomejoaaStr
import Derived.Deep.AppendSrc
import Derived.Deep.AppendLies
import Derived.Deep.Upon
namespace Go.Proofs.Ytjbbhfloomejoaa
open Go.RowKit

theorem list_set_take (l vs : List Value) (v : Value) (o : Nat) (h : o + (vs.length + 1) ≤ l.length) :
    (l.set o v).take (o + 1) ++ vs ++ (l.set o v).drop (o + 1 + vs.length) = l.take o ++ (v :: vs) ++ l.drop (o + (vs.length + 1)) := by
  have e1 : (l.set o v).take (o + 1) = l.take o ++ [v] := by
    rw [List.take_succ_eq_append_getElem (by simp; omega)]
    rw [List.take_set, List.set_eq_of_length_le (by simp [Nat.min_le_left])]
    simp
  have e2 : (l.set o v).drop (o + 1 + vs.length) = l.drop (o + (vs.length + 1)) := by
    rw [List.drop_set_of_lt (by omega)]
    congr 1; omega
  rw [e1, e2]
  simp

theorem setCells_eq_setRow (g : Nat) (t : TypeId) (fr : Nat × Nat) : ∀ (vs : List Value) (o : Nat) (w : World) (cur : Array Value), w.heap[g]? = some (.cells cur t fr) → o + vs.length ≤ cur.size →
    w.setCells g o vs = w.setRow g (cur.toList.take o ++ vs ++ cur.toList.drop (o + vs.length)).toArray
  | [], o, w, cur, hg, _ => by
    have e : (cur.toList.take o ++ ([] : List Value) ++ cur.toList.drop (o + ([] : List Value).length)).toArray = cur := by simp
    rw [e, setRow_self w g cur t fr hg]
    rfl
  | v :: vs, o, w, cur, hg, hle => by
    have h1 := setCell_eq_setRow w g o cur t fr v hg
    have hg' : (w.setRow g (cur.setIfInBounds o v)).heap[g]? = some (.cells (cur.setIfInBounds o v) t fr) := setRow_heap w g cur _ t fr hg
    show (w.setCell ⟨g, o, none⟩ v).setCells g (o + 1) vs = _
    rw [h1, setCells_eq_setRow g t fr vs (o + 1) _ _ hg' (by simp at hle ⊢; omega), setRow_setRow]
    congr 2
    have := list_set_take cur.toList vs v o (by simpa using hle)
    simpa using this

/-- Behind one step: only the own row 'o' may have turned; the row is 'o'' now: the same, or a new one. -/
def Hop (w w' : World) (o o' : Option Nat) : Prop := w.grownBy w' o ∧ (o' = o ∨ ∃ g, w.heap.size ≤ g ∧ o' = some g)
theorem Hop.refl (w : World) (o : Option Nat) : Hop w w o o := ⟨World.grownBy.refl w o, .inl rfl⟩
theorem grownBy_trans {w w1 w2 : World} {o o1 : Option Nat} (h : w.grownBy w1 o) (k : w1.grownBy w2 o1) (ho : o1 = o ∨ ∀ g, o1 = some g → w.heap.size ≤ g) : w.grownBy w2 o :=
  ⟨k.os.trans h.os, k.tape.trans h.tape, k.output.trans h.output, Nat.le_trans h.size k.size, fun i hi hne => by
    rw [k.block i (Nat.lt_of_lt_of_le hi h.size) (fun e => by
      rcases ho with ho | ho
      · exact hne (e.trans ho)
      · have := ho i e.symm; omega), h.block i hi hne]⟩
theorem Hop.trans {w w1 w2 : World} {o o1 o2 : Option Nat} (h : Hop w w1 o o1) (k : Hop w1 w2 o1 o2) : Hop w w2 o o2 := by
  refine ⟨grownBy_trans h.1 k.1 ?_, ?_⟩
  · rcases h.2 with h2 | ⟨g, hg, h2⟩
    · exact .inl h2
    · exact .inr fun k hk => by rw [h2] at hk; cases hk; exact hg
  · rcases k.2 with k2 | ⟨g, hg, k2⟩
    · rcases h.2 with h2 | ⟨g', hg', h2⟩
      · exact .inl (k2.trans h2)
      · exact .inr ⟨g', hg', k2.trans h2⟩
    · exact .inr ⟨g, Nat.le_trans h.1.size hg, k2⟩
theorem Hop.grow {w w1 w2 : World} {o o1 : Option Nat} (h : Hop w w1 o o1) (k : Below w1.heap.size w1 w2) : Hop w w2 o o1 :=
  h.trans ⟨⟨k.os, k.tape, k.output, k.size, fun i hi _ => k.block i hi⟩, .inl rfl⟩
theorem grownBy_below {w w1 : World} (k : Below w.heap.size w w1) (o : Option Nat) : w.grownBy w1 o := ⟨k.os, k.tape, k.output, k.size, fun i hi _ => k.block i hi⟩
theorem own_below {w w1 : World} {base : Nat} {e : TypeId} {size : Nat} {v : Value} {n : Nat} {xs : List Value} (h : w.ownsRow base e size v n xs) (k : Below w.heap.size w w1) : w1.ownsRow base e size v n xs :=
  h.kept (grownBy_below k none) (by cases v.ownBlock <;> simp)
/-- Below a base that the own row lies behind, nothing has turned. -/
theorem Hop.below {w w' : World} {o o' : Option Nat} {B : Nat} (h : Hop w w' o o') (hB : B ≤ w.heap.size) (ho : ∀ k, o = some k → B ≤ k) : Below B w w' :=
  (Below.refl B w).grown h.1 hB ho
/-- The own row is not a block of another type. -/
theorem own_ne {w : World} {base : Nat} {e : TypeId} {size : Nat} {v : Value} {n : Nat} {xs : List Value} (h : w.ownsRow base e size v n xs) {L : Nat} {C : Array Value} {t : TypeId} {fr : Nat × Nat}
    (hL : w.heap[L]? = some (.cells C t fr)) (ht : t ≠ e) : some L ≠ v.ownBlock := by
  intro e1
  rcases h.2 with ⟨rfl, _⟩ | ⟨g, cap, cur, rfl, _, hg, _⟩
  · simp [Value.ownBlock] at e1
  · simp [Value.ownBlock] at e1
    subst e1
    rw [hL] at hg
    simp at hg
    exact ht hg.2.1

section
variable {P : Program}
theorem run_append_row (w : World) (t tx ty e : TypeId) (base : Nat) (i : TypeInfo) (z : Value) (size bytes : Nat) (ht : P.underlying t = some (.slice e)) (hi : P.info? e = some i) (hz : i.zero = some z)
    (hsize : i.size = size) (hby : i.bytes = bytes) (hzs : z.cells.size = size)
    (v : Value) (n : Nat) (xs : List Value) (hown : w.ownsRow base e size v n xs) (x : Value) (m : Nat) (news : List Value) (hs : Src P size tx x m news w)
    (h63 : n + m ≤ maxLen) (hbytes : (n + m) * bytes ≤ 140737488355328) (hbase : base ≤ w.heap.size) :
    ∃ v' w', (Builtin.append_ #[t, tx] ty #[v, x]).run P w = .ok v' w' ∧ w'.ownsRow base e size v' (n + m) (xs ++ news) ∧ Hop w w' v.ownBlock v'.ownBlock := by
  subst hsize hby
  have hmax : ((n + m : Nat) : Int) ≤ 9223372036854775807 := by unfold maxLen at h63; omega
  have hlen : (xs ++ news).length = (n + m) * i.size := by rw [List.length_append, hown.1, hs.newsLen, Nat.add_mul]
  -- a new row
  have new : ∀ (old : Nat) (o : Option Nat), old < n + m →
      (w.drew.alloc (.cells ((xs ++ news).toArray ++ Builtin.zeroCells z.cells (grownCap w (n + m) old e - (n + m))) e)).ownsRow base e i.size (.slice (some ⟨w.heap.size, 0, none⟩) (n + m) (grownCap w (n + m) old e)) (n + m) (xs ++ news) ∧
      Hop w (w.drew.alloc (.cells ((xs ++ news).toArray ++ Builtin.zeroCells z.cells (grownCap w (n + m) old e - (n + m))) e)) o (some w.heap.size) := by
    intro old o ho
    refine ⟨⟨hlen, .inr ⟨w.heap.size, _, _, rfl, hbase, heap_alloc_new w.drew _, grownCap_ge w (n + m) old e, grownCap_le_maxLen w (n + m) old e h63, ?_, ?_⟩⟩, ⟨rfl, rfl, rfl, by simp, fun k hk _ => heap_alloc_old w.drew _ hk⟩, .inr ⟨_, Nat.le_refl _, rfl⟩⟩
    · have := grownCap_ge w (n + m) old e
      simp only [Array.size_append, List.size_toArray, size_zeroCells, hzs, hlen, ← Nat.add_mul]
      congr 1
      omega
    · simp only [Array.toList_append]
      rw [← hlen]
      exact List.take_left
  have hfit : ∀ old, old < n + m → Builtin.nextslicecap (n + m) old * i.bytes ≤ 281474976710656 := fun old ho => growslice_fits ho hbytes
  rcases hown.2 with ⟨rfl, rfl⟩ | ⟨g, cap, cur, rfl, hbg, hg, hnc, hcm, hcs, htake⟩
  · have hx : xs = [] := List.eq_nil_of_length_eq_zero (by simpa using hown.1)
    subst hx
    by_cases hm : m = 0
    · subst hm
      have hn : news = [] := List.eq_nil_of_length_eq_zero (by simpa using hs.newsLen)
      subst hn
      exact ⟨_, _, run_append_nothing w t tx ty e i ht hi none 0 0 (Nat.le_refl _) x hs, World.ownsRow_nil w base e i.size, Hop.refl _ _⟩
    · have hr := run_append_grow_src (P := P) w t tx ty e i z ht hi hz none 0 0 [] (run_firstCells_none w.drew i.size 0 0 0) x m news hs (by omega) hmax (by have := hfit 0 (by omega); simpa using this)
      obtain ⟨h1, h2⟩ := new 0 (Value.ownBlock (.slice none 0 0)) (by omega)
      exact ⟨_, _, hr, h1, h2⟩
  · by_cases hroom : n + m ≤ cap
    · have hspan : n * i.size + news.length ≤ cur.size := by
        rw [hs.newsLen, hcs, ← Nat.add_mul]; exact Nat.mul_le_mul_right _ hroom
      have hcell : ∀ j, w.cell? ⟨g, j, none⟩ = cur[j]? := fun j => cell_of_row w g j cur e (0, 0) hg
      have hr := run_append_room_src (P := P) w t tx ty e i ht hi g 0 n cap x m news hs hroom (fun j hj => by rw [hcell]; simp; omega) (fun j hj => by simp [World.frozen?, hg])
      rw [Nat.zero_add, setCells_eq_setRow g e (0, 0) news (n * i.size) w cur hg hspan] at hr
      refine ⟨_, _, hr, ⟨hlen, .inr ⟨g, cap, _, rfl, hbg, setRow_heap w g cur _ e (0, 0) hg, hroom, hcm, ?_, ?_⟩⟩, ⟨rfl, rfl, rfl, by simp, fun k _ hne => setRow_other w g k _ (fun hh => hne (by rw [hh]; rfl))⟩, .inl rfl⟩
      · simp only [List.size_toArray, List.length_append, List.length_take, List.length_drop, Array.length_toList]
        rw [Nat.min_eq_left (by omega)]
        rw [← hcs]; omega
      · rw [htake]
        show (xs ++ news ++ _).take _ = _
        rw [← hlen]
        exact List.take_left
    · have hold : (Builtin.firstCells i.size n (.slice (some ⟨g, 0, none⟩) n cap)).run P w.drew = .ok xs.toArray w.drew := by
        refine run_firstCells_some (P := P) w.drew i.size n ⟨g, 0, none⟩ n cap xs hown.1 fun j u hj => ?_
        have := hown.cells (g := g) rfl j u hj
        simpa using this
      have hr := run_append_grow_src (P := P) w t tx ty e i z ht hi hz (some ⟨g, 0, none⟩) n cap xs hold x m news hs (by omega) hmax (hfit cap (by omega))
      obtain ⟨h1, h2⟩ := new cap (Value.ownBlock (.slice (some ⟨g, 0, none⟩) n cap)) (by omega)
      exact ⟨_, _, hr, h1, h2⟩

/-- At the list of a plain region's operations. -/
theorem wpList_append_row {w : World} {ops : Array Oper} {rest : List Oper} {o : Oper} {a : Act} {Q : Exit → Act → World → Prop} (hgd : o.guard = none) (s x : Operand) (t tx : TypeId)
    (ho : o.op = .call { callee := .builtin .append, args := #[s, x], argTypes := #[t, tx] })
    (base : Nat) (e : TypeId) (i : TypeInfo) (z : Value) (size bytes : Nat) (ht : P.underlying t = some (.slice e)) (hi : P.info? e = some i) (hz : i.zero = some z)
    (hsize : i.size = size) (hby : i.bytes = bytes) (hzs : z.cells.size = size)
    (v : Value) (n : Nat) (xs : List Value) (hv : a.eval s = v) (hown : w.ownsRow base e size v n xs)
    (X : Value) (m : Nat) (news : List Value) (hX : a.eval x = X)
    (h : ∀ v' w', w'.ownsRow base e size v' (n + m) (xs ++ news) → Hop w w' v.ownBlock v'.ownBlock → wpList P ops Q rest (a.put o.dst v') w')
    (hs : Src P size tx X m news w) (h63 : n + m ≤ maxLen) (hbytes : (n + m) * bytes ≤ 140737488355328) (hbase : base ≤ w.heap.size) : wpList P ops Q (o :: rest) a w :=
  wpList_plain hgd fun _ hK => by
    obtain ⟨v', w', hr, h2, h3⟩ := run_append_row w t tx o.type e base i z size bytes ht hi hz hsize hby hzs v n xs hown X m news hs h63 hbytes hbase
    unfold Oper.wp execOp
    simp only [ho, resolve, invoke, builtin, Sem.run_bind, Sem.run_pure, Result.andThen_ok, List.map_toArray, List.map_cons, List.map_nil, hv, hX, hr]
    exact hK _ _ (h v' w' h2 h3)
/-- At a step of a region that draws its order. -/
theorem step_append_row {w : World} {ops : Array Oper} {o : Oper} {a : Act} {K : Act → World → Prop} {Q : Exit → Act → World → Prop} {E : Prop} (hgd : o.guard = none) (s x : Operand) (t tx : TypeId)
    (ho : o.op = .call { callee := .builtin .append, args := #[s, x], argTypes := #[t, tx] })
    (base : Nat) (e : TypeId) (i : TypeInfo) (z : Value) (size bytes : Nat) (ht : P.underlying t = some (.slice e)) (hi : P.info? e = some i) (hz : i.zero = some z)
    (hsize : i.size = size) (hby : i.bytes = bytes) (hzs : z.cells.size = size)
    (v : Value) (n : Nat) (xs : List Value) (hv : a.eval s = v) (hown : w.ownsRow base e size v n xs)
    (X : Value) (m : Nat) (news : List Value) (hX : a.eval x = X)
    (h : ∀ v' w', w'.ownsRow base e size v' (n + m) (xs ++ news) → Hop w w' v.ownBlock v'.ownBlock → K (a.put o.dst v') w')
    (hs : Src P size tx X m news w) (h63 : n + m ≤ maxLen) (hbytes : (n + m) * bytes ≤ 140737488355328) (hbase : base ≤ w.heap.size) :
    if Region.wanted o (yielded ops a.tmps) = true then Oper.wp P o a w K Q else E := by
  have hw : Region.wanted o (yielded ops a.tmps) = true := by simp [Region.wanted, hgd]
  rw [if_pos hw]
  obtain ⟨v', w', hr, h2, h3⟩ := run_append_row w t tx o.type e base i z size bytes ht hi hz hsize hby hzs v n xs hown X m news hs h63 hbytes hbase
  unfold Oper.wp execOp
  simp only [ho, resolve, invoke, builtin, Sem.run_bind, Sem.run_pure, Result.andThen_ok, List.map_toArray, List.map_cons, List.map_nil, hv, hX, hr]
  exact h v' w' h2 h3
end

/-- A row of bytes of the call's own. -/
def cb (l : List UInt8) : List Value := l.map fun b => Value.int .u8 (b.toNat : Int)
theorem cb_length (l : List UInt8) : (cb l).length = l.length := List.length_map ..
theorem cb_append (x y : List UInt8) : cb (x ++ y) = cb x ++ cb y := List.map_append ..
def BRow (w : World) (base : Nat) (e : TypeId) (v : Value) (l : List UInt8) : Prop := w.ownsRow base e 1 v l.length (cb l)
theorem BRow.grow {w w1 : World} {base : Nat} {e : TypeId} {v : Value} {l : List UInt8} (h : BRow w base e v l) (k : Below w.heap.size w w1) : BRow w1 base e v l := own_below h k
theorem BRow.app {w : World} {base : Nat} {e : TypeId} {v : Value} {l m : List UInt8} {n : Nat} (h : w.ownsRow base e 1 v n (cb l ++ cb m)) (hn : n = l.length + m.length) : BRow w base e v (l ++ m) := by
  unfold BRow
  rw [List.length_append, cb_append, ← hn]
  exact h
theorem BRow.nil (w : World) (base : Nat) (e : TypeId) : BRow w base e (.slice none 0 0) [] := World.ownsRow_nil w base e 1
theorem byteCells_bs (l : List UInt8) : byteCells (bs l) = cb l := rfl
theorem BRow.string {P : Program} {w : World} {base : Nat} {v : Value} {l : List UInt8} (src dst e : TypeId) (hs : P.underlying src = some (.slice e)) (he : P.underlying e = some (.int .u8)) (hd : P.underlying dst = some .string)
    (h : BRow w base e v l) : (convert src dst v).run P w = .ok (.string (bs l)) w := run_string_of_row w src dst e base v l hs he hd h
theorem src_string {P : Program} {w : World} {tx : TypeId} (hk : P.underlying tx = some .string) (l : List UInt8) : Src P 1 tx (.string (bs l)) l.length (cb l) w := by
  have := Src.ofString (P := P) w hk (bs l)
  rwa [bs_size] at this
/-- The new block of a literal. -/
theorem src_block {P : Program} {w : World} {tx e' : TypeId} (hk : P.underlying tx = some (.slice e')) (size n c : Nat) (B : Nat) (cs : Array Value) (t : TypeId) (fr : Nat × Nat) (hb : w.heap[B]? = some (.cells cs t fr))
    (hl : cs.size = n * size) (h1 : ∀ u ∈ cs.toList, u.oneCell' = true) : Src P size tx (.slice (some ⟨B, 0, none⟩) n c) n cs.toList w :=
  Src.ofSlice w hk _ n c cs.toList (by simpa using hl) (World.news_of_block hb) h1
end Go.Proofs.Ytjbbhfloomejoaa
