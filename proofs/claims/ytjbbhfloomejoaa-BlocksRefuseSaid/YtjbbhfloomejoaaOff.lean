/- Rows of the call's own that may begin behind their block's head (popped from the front): append onto them. No program. -/
import Derived.Test.YtjbbhfloomejoaaAppend
namespace Go.Proofs.Ytjbbhfloomejoaa
open Go.RowKit

/-- A row of the call's own; its first element may stand anywhere in its block. -/
def OffRow (w : World) (base : Nat) (e : TypeId) (size : Nat) (v : Value) (n : Nat) (xs : List Value) : Prop :=
  xs.length = n * size ∧
  ((v = .slice none 0 0 ∧ n = 0) ∨
   ∃ g o cap cur, v = .slice (some ⟨g, o, none⟩) n cap ∧ base ≤ g ∧ w.heap[g]? = some (.cells cur e (0, 0)) ∧ n ≤ cap ∧ cap ≤ maxLen ∧ o + cap * size ≤ cur.size ∧ (cur.toList.drop o).take (n * size) = xs)
section
variable {w w1 : World} {base : Nat} {e : TypeId} {size n : Nat} {v : Value} {xs : List Value}
theorem OffRow.of_own (h : w.ownsRow base e size v n xs) : OffRow w base e size v n xs := by
  refine ⟨h.1, ?_⟩
  rcases h.2 with h2 | ⟨g, cap, cur, rfl, h1, h2, h3, h4, h5, h6⟩
  · exact .inl h2
  · exact .inr ⟨g, 0, cap, cur, rfl, h1, h2, h3, h4, by omega, by simpa using h6⟩
theorem OffRow.nil (w : World) (base : Nat) (e : TypeId) (size : Nat) : OffRow w base e size (.slice none 0 0) 0 [] := ⟨by simp, .inl ⟨rfl, rfl⟩⟩
theorem OffRow.kept {row : Option Nat} (h : OffRow w base e size v n xs) (g : w.grownBy w1 row) (hne : row = none ∨ row ≠ v.ownBlock) : OffRow w1 base e size v n xs := by
  refine ⟨h.1, ?_⟩
  rcases h.2 with h2 | ⟨b, o, cap, cur, rfl, h1, h2, h3⟩
  · exact .inl h2
  · refine .inr ⟨b, o, cap, cur, rfl, h1, (g.block b (Array.getElem?_eq_some_iff.1 h2).1 ?_).trans h2, h3⟩
    intro e1
    rcases hne with hne | hne
    · rw [hne] at e1; cases e1
    · exact hne e1.symm
theorem OffRow.grow (h : OffRow w base e size v n xs) (k : Below w.heap.size w w1) : OffRow w1 base e size v n xs := h.kept (grownBy_below k none) (.inl rfl)
theorem OffRow.lower {b' : Nat} (h : OffRow w base e size v n xs) (hb : b' ≤ base) : OffRow w b' e size v n xs := by
  refine ⟨h.1, ?_⟩
  rcases h.2 with h2 | ⟨b, o, cap, cur, rfl, h1, h2⟩
  · exact .inl h2
  · exact .inr ⟨b, o, cap, cur, rfl, Nat.le_trans hb h1, h2⟩
theorem OffRow.base_le (h : OffRow w base e size v n xs) {k : Nat} (hk : v.ownBlock = some k) : base ≤ k ∧ k < w.heap.size := by
  rcases h.2 with ⟨rfl, _⟩ | ⟨b, o, cap, cur, rfl, h1, h2, _⟩
  · cases hk
  · cases hk; exact ⟨h1, (Array.getElem?_eq_some_iff.1 h2).1⟩
theorem OffRow.ne {L : Nat} {C : Array Value} {t : TypeId} {fr : Nat × Nat} (h : OffRow w base e size v n xs) (hL : w.heap[L]? = some (.cells C t fr)) (ht : t ≠ e) : some L ≠ v.ownBlock := by
  intro e1
  rcases h.2 with ⟨rfl, _⟩ | ⟨g, o, cap, cur, rfl, _, hg, _⟩
  · simp [Value.ownBlock] at e1
  · simp [Value.ownBlock] at e1
    subst e1
    rw [hL] at hg
    simp at hg
    exact ht hg.2.1
theorem OffRow.ne_obj {L : Nat} {ob : Obj} (h : OffRow w base e size v n xs) (hL : w.heap[L]? = some ob) (ht : ∀ cur, ob ≠ .cells cur e (0, 0)) : some L ≠ v.ownBlock := by
  intro e1
  rcases h.2 with ⟨rfl, _⟩ | ⟨g, o, cap, cur, rfl, _, hg, _⟩
  · simp [Value.ownBlock] at e1
  · simp [Value.ownBlock] at e1
    subst e1
    rw [hL] at hg
    exact ht _ (Option.some.inj hg)
theorem OffRow.cells {g o m cap : Nat} (h : OffRow w base e size (.slice (some ⟨g, o, none⟩) m cap) n xs) (j : Nat) (u : Value) (hj : xs[j]? = some u) : w.cell? ⟨g, o + j, none⟩ = some u := by
  rcases h.2 with ⟨h0, _⟩ | ⟨g', o', cap', cur, hv, h1, h2, h3, h4, h5, h6⟩
  · cases h0
  · cases hv
    rw [cell_of_row w g (o + j) cur e (0, 0) h2]
    rw [← h6] at hj
    have hlt : j < n * size := by
      have := (List.getElem?_eq_some_iff.1 hj).1
      simp at this; omega
    rw [List.getElem?_take_of_lt hlt, List.getElem?_drop] at hj
    simpa using hj
/-- The row without its first element. -/
theorem OffRow.next {x ys : List Value} {g o cap : Nat} (h : OffRow w base e size (.slice (some ⟨g, o, none⟩) (n + 1) cap) (n + 1) (x ++ ys)) (hx : x.length = size) :
    OffRow w base e size (.slice (some (if cap = 1 then ⟨g, o, none⟩ else ⟨g, o + size, none⟩)) n (cap - 1)) n ys := by
  have hl : ys.length = n * size := by
    have := h.1
    rw [List.length_append, hx, Nat.add_mul] at this
    omega
  refine ⟨hl, ?_⟩
  rcases h.2 with ⟨h0, _⟩ | ⟨g', o', cap', cur, hv, h1, h2, h3, h4, h5, h6⟩
  · cases h0
  · cases hv
    by_cases hc : cap = 1
    · subst hc
      have hn : n = 0 := by omega
      subst hn
      refine .inr ⟨g, o, 0, cur, by simp, h1, h2, Nat.le_refl _, by omega, by omega, ?_⟩
      have : ys = [] := List.eq_nil_of_length_eq_zero (by simpa using hl)
      rw [this]; simp
    · refine .inr ⟨g, o + size, cap - 1, cur, by simp [hc], h1, h2, by omega, by omega, ?_, ?_⟩
      · have e1 : cap * size = (cap - 1) * size + size := by
          rw [← Nat.succ_mul]; congr 1; omega
        omega
      · have h7 := congrArg (List.drop size) h6
        rw [List.drop_take, List.drop_drop, List.drop_left' hx, Nat.add_mul] at h7
        rw [← h7]
        congr 1
        omega
/-- The row without its last element. -/
theorem OffRow.pop {x ys : List Value} {g o cap : Nat} (h : OffRow w base e size (.slice (some ⟨g, o, none⟩) (n + 1) cap) (n + 1) (ys ++ x)) (hy : ys.length = n * size) :
    OffRow w base e size (.slice (some ⟨g, o, none⟩) n cap) n ys := by
  refine ⟨hy, ?_⟩
  rcases h.2 with ⟨h0, _⟩ | ⟨g', o', cap', cur, hv, h1, h2, h3, h4, h5, h6⟩
  · cases h0
  · cases hv
    refine .inr ⟨g, o, cap, cur, rfl, h1, h2, by omega, h4, h5, ?_⟩
    have h7 := congrArg (List.take (n * size)) h6
    rw [List.take_take, Nat.min_eq_left (Nat.mul_le_mul_right _ (by omega)), List.take_left' hy] at h7
    exact h7
end
theorem off_addr (g o j : Nat) : Addr.add ⟨g, o, none⟩ j = ⟨g, o + j, none⟩ := by unfold Addr.add; split <;> simp_all
section
variable {P : Program}
theorem run_append_off (w : World) (t tx ty e : TypeId) (base : Nat) (i : TypeInfo) (z : Value) (size bytes : Nat) (ht : P.underlying t = some (.slice e)) (hi : P.info? e = some i) (hz : i.zero = some z)
    (hsize : i.size = size) (hby : i.bytes = bytes) (hzs : z.cells.size = size)
    (v : Value) (n : Nat) (xs : List Value) (hown : OffRow w base e size v n xs) (x : Value) (m : Nat) (news : List Value) (hs : Src P size tx x m news w)
    (h63 : n + m ≤ maxLen) (hbytes : (n + m) * bytes ≤ 140737488355328) (hbase : base ≤ w.heap.size) :
    ∃ v' w', (Builtin.append_ #[t, tx] ty #[v, x]).run P w = .ok v' w' ∧ OffRow w' base e size v' (n + m) (xs ++ news) ∧ Hop w w' v.ownBlock v'.ownBlock := by
  rcases hown.2 with ⟨rfl, rfl⟩ | ⟨g, o, cap, cur, rfl, hbg, hg, hnc, hcm, hcs, htake⟩
  · have h0 : w.ownsRow base e size (.slice none 0 0) 0 xs := ⟨hown.1, .inl ⟨rfl, rfl⟩⟩
    obtain ⟨v', w', h1, h2, h3⟩ := run_append_row w t tx ty e base i z size bytes ht hi hz hsize hby hzs _ 0 xs h0 x m news hs h63 hbytes hbase
    exact ⟨v', w', h1, OffRow.of_own h2, h3⟩
  · subst hsize hby
    have hmax : ((n + m : Nat) : Int) ≤ 9223372036854775807 := by unfold maxLen at h63; omega
    have hlen : (xs ++ news).length = (n + m) * i.size := by rw [List.length_append, hown.1, hs.newsLen, Nat.add_mul]
    by_cases hroom : n + m ≤ cap
    · have hspan : o + n * i.size + news.length ≤ cur.size := by
        have h1 : (n + m) * i.size ≤ cap * i.size := Nat.mul_le_mul_right _ hroom
        rw [Nat.add_mul] at h1
        rw [hs.newsLen]; omega
      have hcell : ∀ j, w.cell? ⟨g, j, none⟩ = cur[j]? := fun j => cell_of_row w g j cur e (0, 0) hg
      have hr := run_append_room_src (P := P) w t tx ty e i ht hi g o n cap x m news hs hroom (fun j hj => by rw [hcell]; simp; omega) (fun j hj => by simp [World.frozen?, hg])
      rw [setCells_eq_setRow g e (0, 0) news (o + n * i.size) w cur hg hspan] at hr
      refine ⟨_, _, hr, ⟨hlen, .inr ⟨g, o, cap, _, rfl, hbg, setRow_heap w g cur _ e (0, 0) hg, hroom, hcm, ?_, ?_⟩⟩, ⟨rfl, rfl, rfl, by simp, fun k _ hne => setRow_other w g k _ (fun hh => hne (by rw [hh]; rfl))⟩, .inl rfl⟩
      · simp only [List.size_toArray, List.length_append, List.length_take, List.length_drop, Array.length_toList]
        rw [Nat.min_eq_left (by omega)]
        omega
      · show (List.drop o (cur.toList.take (o + n * i.size) ++ news ++ cur.toList.drop (o + n * i.size + news.length))).take ((n + m) * i.size) = xs ++ news
        have h1 : cur.toList.take (o + n * i.size) = cur.toList.take o ++ xs := by
          rw [List.take_add, htake]
        have h2 : (cur.toList.take o).length = o := by rw [List.length_take, Array.length_toList]; omega
        rw [h1, List.append_assoc, List.append_assoc, List.drop_left' h2, ← hlen, ← List.append_assoc]
        exact List.take_left
    · have hold : (Builtin.firstCells i.size n (.slice (some ⟨g, o, none⟩) n cap)).run P w.drew = .ok xs.toArray w.drew := by
        refine run_firstCells_some (P := P) w.drew i.size n ⟨g, o, none⟩ n cap xs hown.1 fun j u hj => ?_
        have := hown.cells j u hj
        rw [off_addr]
        exact this
      have hr := run_append_grow_src (P := P) w t tx ty e i z ht hi hz (some ⟨g, o, none⟩) n cap xs hold x m news hs (by omega) hmax (growslice_fits (by omega) hbytes)
      refine ⟨_, _, hr, OffRow.of_own ⟨hlen, .inr ⟨w.heap.size, _, _, rfl, hbase, heap_alloc_new w.drew _, grownCap_ge w (n + m) cap e, grownCap_le_maxLen w (n + m) cap e h63, ?_, ?_⟩⟩, ⟨rfl, rfl, rfl, by simp, fun k hk _ => heap_alloc_old w.drew _ hk⟩, .inr ⟨_, Nat.le_refl _, rfl⟩⟩
      · have := grownCap_ge w (n + m) cap e
        simp only [Array.size_append, List.size_toArray, size_zeroCells, hzs, hlen, ← Nat.add_mul]
        congr 1
        omega
      · simp only [Array.toList_append]
        rw [← hlen]
        exact List.take_left
/-- At the list of a plain region's operations. -/
theorem wpList_append_off {w : World} {ops : Array Oper} {rest : List Oper} {o : Oper} {a : Act} {Q : Exit → Act → World → Prop} (hgd : o.guard = none) (s x : Operand) (t tx : TypeId)
    (ho : o.op = .call { callee := .builtin .append, args := #[s, x], argTypes := #[t, tx] })
    (base : Nat) (e : TypeId) (i : TypeInfo) (z : Value) (size bytes : Nat) (ht : P.underlying t = some (.slice e)) (hi : P.info? e = some i) (hz : i.zero = some z)
    (hsize : i.size = size) (hby : i.bytes = bytes) (hzs : z.cells.size = size)
    (v : Value) (n : Nat) (xs : List Value) (hv : a.eval s = v) (hown : OffRow w base e size v n xs)
    (X : Value) (m : Nat) (news : List Value) (hX : a.eval x = X)
    (h : ∀ v' w', OffRow w' base e size v' (n + m) (xs ++ news) → Hop w w' v.ownBlock v'.ownBlock → wpList P ops Q rest (a.put o.dst v') w')
    (hs : Src P size tx X m news w) (h63 : n + m ≤ maxLen) (hbytes : (n + m) * bytes ≤ 140737488355328) (hbase : base ≤ w.heap.size) : wpList P ops Q (o :: rest) a w :=
  wpList_plain hgd fun _ hK => by
    obtain ⟨v', w', hr, h2, h3⟩ := run_append_off w t tx o.type e base i z size bytes ht hi hz hsize hby hzs v n xs hown X m news hs h63 hbytes hbase
    unfold Oper.wp execOp
    simp only [ho, resolve, invoke, builtin, Sem.run_bind, Sem.run_pure, Result.andThen_ok, List.map_toArray, List.map_cons, List.map_nil, hv, hX, hr]
    exact hK _ _ (h v' w' h2 h3)
end
end Go.Proofs.Ytjbbhfloomejoaa
