/- append onto a row that is the call's own, or one that is read and full (as slices.Clip leaves it). -/
import Derived.Test.YtjbbhfloomejoaaBytes
namespace Go.Proofs.Ytjbbhfloomejoaa
open Go.RowKit

def BGood (w : World) (base : Nat) (u : Value) (l : List UInt8) : Prop :=
  BRow w base 5 u l ∨ ∃ g, u = .slice (some ⟨g, 0, none⟩) l.length l.length ∧ base ≤ g ∧ g < w.heap.size ∧ BAt w (some ⟨g, 0, none⟩) l.length l
theorem BGood.base_le {w : World} {base : Nat} {u : Value} {l : List UInt8} (h : BGood w base u l) {k : Nat} (hk : u.ownBlock = some k) : base ≤ k := by
  rcases h with h | ⟨g, rfl, hg, _⟩
  · exact (World.ownsRow.lt h k hk).1
  · cases hk; exact hg
theorem BGood.reads {w : World} {base : Nat} {u : Value} {l : List UInt8} (h : BGood w base u l) : ∃ A c, u = .slice A l.length c ∧ BAt w A c l := by
  rcases h with h | ⟨g, rfl, _, _, h⟩
  · exact h.at_
  · exact ⟨_, _, rfl, h⟩
theorem BGood.grow {w w' : World} {base : Nat} {u : Value} {l : List UInt8} (h : BGood w base u l) (k : Below w.heap.size w w') : BGood w' base u l := by
  rcases h with h | ⟨g, rfl, h1, h2, h3⟩
  · exact .inl (h.grow k)
  · exact .inr ⟨g, rfl, h1, Nat.lt_of_lt_of_le h2 k.size, h3.grow k⟩
/-- What Clip makes of a row. -/
theorem BRow.clip {w : World} {base : Nat} {A : Option Addr} {n c : Nat} {l : List UInt8} (h : BRow w base 5 (.slice A n c) l) : n = l.length ∧ BGood w base (.slice A n n) l := by
  obtain ⟨A', c', e, hb⟩ := h.at_
  cases e
  refine ⟨rfl, ?_⟩
  rcases h.2 with ⟨e, hn⟩ | ⟨g, cap, cur, e, h1, h2, h3, _⟩
  · obtain rfl : l = [] := List.eq_nil_of_length_eq_zero hn
    cases e
    exact .inl (BRow.nil _ _ _)
  · cases e
    exact .inr ⟨g, rfl, h1, (Array.getElem?_eq_some_iff.1 h2).1, Nat.le_refl _, hb.2⟩
theorem run_append_good (w : World) (tx ty : TypeId) (base : Nat) (v : Value) (l : List UInt8) (h : BGood w base v l) (x : Value) (m : Nat) (news : List Value) (hs : Src Try.prog 1 tx x m news w)
    (hm : 1 ≤ m) (hn : l.length + m ≤ 100000000000) (hbase : base ≤ w.heap.size) :
    ∃ v' w', (Builtin.append_ #[23, tx] ty #[v, x]).run Try.prog w = .ok v' w' ∧ w'.ownsRow base 5 1 v' (l.length + m) (cb l ++ news) ∧ Hop w w' v.ownBlock v'.ownBlock := by
  obtain ⟨i0, hi, hz0, hz1, hz2⟩ := info_parts infoByte
  rcases h with h | ⟨g, rfl, h1, h2, h3⟩
  · exact run_append_row w 23 tx ty 5 base i0 _ 1 1 Try.underlying23 hi hz0 hz1 hz2 rfl v _ _ h x m news hs (by unfold maxLen; omega) (by omega) hbase
  · have hlen : (cb l ++ news).length = (l.length + m) * 1 := by rw [List.length_append, cb_length, hs.newsLen]; omega
    have hold : (Builtin.firstCells i0.size l.length (.slice (some ⟨g, 0, none⟩) l.length l.length)).run Try.prog w.drew = .ok (cb l).toArray w.drew := by
      rw [hz1]
      refine run_firstCells_some (P := Try.prog) w.drew 1 l.length ⟨g, 0, none⟩ l.length l.length (cb l) (by rw [cb_length]; omega) fun j u hj => ?_
      obtain ⟨x, hx, rfl⟩ : ∃ x, l[j]? = some x ∧ u = .int .u8 (x.toNat : Int) := by
        simp only [cb, List.getElem?_map, Option.map_eq_some_iff] at hj
        obtain ⟨x, h1, h2⟩ := hj
        exact ⟨x, h1, h2.symm⟩
      obtain ⟨g', o', e, _, hc⟩ := h3.2 (by have := (List.getElem?_eq_some_iff.1 hx).1; omega)
      cases e
      rw [addr_addB]
      exact hc j x hx
    have hr := run_append_grow_src (P := Try.prog) w 23 tx ty 5 i0 _ Try.underlying23 hi hz0 (some ⟨g, 0, none⟩) l.length l.length (cb l) hold x m news (by rw [hz1]; exact hs) (by omega) (by omega) (growslice_fits (by omega) (by rw [hz2]; omega))
    refine ⟨_, _, hr, ⟨hlen, .inr ⟨w.heap.size, _, _, rfl, hbase, heap_alloc_new w.drew _, grownCap_ge w (l.length + m) l.length 5, grownCap_le_maxLen w (l.length + m) l.length 5 (by unfold maxLen; omega), ?_, ?_⟩⟩, ⟨rfl, rfl, rfl, by simp, fun k hk _ => heap_alloc_old w.drew _ hk⟩, .inr ⟨_, Nat.le_refl _, rfl⟩⟩
    · have := grownCap_ge w (l.length + m) l.length 5
      simp only [Array.size_append, List.size_toArray, size_zeroCells, hlen]
      rw [show (Value.int .u8 0).cells.size = 1 from rfl]
      omega
    · simp only [Array.toList_append]
      rw [← hlen]
      exact List.take_left
theorem wpList_appG {w : World} {ops : Array Oper} {rest : List Oper} {o : Oper} {a : Act} {Q : Exit → Act → World → Prop} (hgd : o.guard = none) (s x : Operand) (tx : TypeId)
    (ho : o.op = .call { callee := .builtin .append, args := #[s, x], argTypes := #[23, tx] })
    (base : Nat) (v : Value) (l m : List UInt8) (hv : a.eval s = v) (hown : BGood w base v l)
    (X : Value) (hX : a.eval x = X) (hs : Src Try.prog 1 tx X m.length (cb m) w) (hm : 1 ≤ m.length) (hn : l.length + m.length ≤ 100000000000) (hbase : base ≤ w.heap.size)
    (h : ∀ v' w', BRow w' base 5 v' (l ++ m) → Hop w w' v.ownBlock v'.ownBlock → wpList Try.prog ops Q rest (a.put o.dst v') w') : wpList Try.prog ops Q (o :: rest) a w :=
  wpList_plain hgd fun _ hK => by
    obtain ⟨v', w', hr, h2, h3⟩ := run_append_good w tx o.type base v l hown X m.length (cb m) hs hm hn hbase
    unfold Oper.wp execOp
    simp only [ho, resolve, invoke, builtin, Sem.run_bind, Sem.run_pure, Result.andThen_ok, List.map_toArray, List.map_cons, List.map_nil, hv, hX, hr]
    exact hK _ _ (h v' w' (BRow.app h2 rfl) h3)
end Go.Proofs.Ytjbbhfloomejoaa
