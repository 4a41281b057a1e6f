/- The walk of layer 28: an empty table; what serves in the loop that fills it. -/
import Derived.Test.YtekcfjfkbiciaaaTabA
namespace Go.Proofs.Ytekcfjfkbiciaaa
open Go.RowKit Go.Maps

set_option maxRecDepth 100000 in
theorem start_new (w : World) : Calls Try.prog 15 #[] w fun e w' => ∃ us : Nat → Value, (∀ s, us s = .slice none 0 0) ∧ e = .returned (.pointer (some ⟨w.heap.size + 1, 0, none⟩)) ∧ TabS w' w.heap.size (w.heap.size + 1) w.heap.size 0 us (fun _ => []) (fun _ => 0) (fun _ => false) ∧ Below w.heap.size w w' := by
  have hmm := @run_makeMap Try.prog
  have k0 := (Below.refl w.heap.size w).alloc (Nat.le_refl _) (.map #[] 0)
  have k1 := Lib.hid (k0.alloc k0.size (.cells #[.slice none 0 0, .slice none 0 0, .slice none 0 0, .slice none 0 0, .slice none 0 0, .slice none 0 0, .slice none 0 0, .slice none 0 0, .slice none 0 0, .slice none 0 0, .slice none 0 0, .slice none 0 0, .slice none 0 0, .map (some w.heap.size)] 58))
  have T := Lib.hid (show TabS ((w.alloc (.map #[] 0)).alloc (.cells #[.slice none 0 0, .slice none 0 0, .slice none 0 0, .slice none 0 0, .slice none 0 0, .slice none 0 0, .slice none 0 0, .slice none 0 0, .slice none 0 0, .slice none 0 0, .slice none 0 0, .slice none 0 0, .slice none 0 0, .map (some w.heap.size)] 58)) w.heap.size (w.heap.size + 1) w.heap.size 0 (fun _ => .slice none 0 0) (fun _ => []) (fun _ => 0) (fun _ => false) from
    ⟨⟨_, heap_alloc2_new w (.map #[] 0) _, rfl, (fun t ht => by
      obtain rfl | rfl | rfl | rfl | rfl | rfl | rfl | rfl | rfl | rfl | rfl | rfl | rfl : t = 0 ∨ t = 1 ∨ t = 2 ∨ t = 3 ∨ t = 4 ∨ t = 5 ∨ t = 6 ∨ t = 7 ∨ t = 8 ∨ t = 9 ∨ t = 10 ∨ t = 11 ∨ t = 12 := by omega
      all_goals rfl), rfl⟩, fun t _ => VRow.nil _ _, (fun s t _ _ _ k hk => by cases hk), (VTab.made w).grow ((Below.refl _ _).alloc (Nat.le_refl _) _), by omega, Nat.le_refl _⟩)
  clear k0
  go_enter Try.func15, Try.ntmps15
  go_wp2
  go_ret
  exact ⟨_, fun _ => rfl, rfl, T.out, k1.out⟩
theorem TabS.lower {x : World} {base b' b m n : Nat} {us : Nat → Value} {R : Nat → List Pv} {f : Pv → Int} {S : Pv → Bool} (h : TabS x base b m n us R f S) (hb : b' ≤ base) : TabS x b' b m n us R f S :=
  ⟨h.box, fun t ht => (h.rows t ht).lower hb, h.apart, h.num, Nat.le_trans hb h.hb, Nat.le_trans hb h.hm⟩
theorem TabS.same {x : World} {base b m n : Nat} {us : Nat → Value} {R R' : Nat → List Pv} {f f' : Pv → Int} {S S' : Pv → Bool} (h : TabS x base b m n us R f S) (hR : ∀ t, R t = R' t) (hf : ∀ v, f v = f' v) (hS : ∀ v, S v = S' v) : TabS x base b m n us R' f' S' := by
  obtain rfl : R = R' := funext hR
  obtain rfl : f = f' := funext hf
  obtain rfl : S = S' := funext hS
  exact h
theorem Vals.block {w w' : World} {A : Option Addr} {c : Nat} {xs : List Pv} (h : Vals w A c xs) (hs : w.heap.size ≤ w'.heap.size) (hk : ∀ g o, A = some ⟨g, o, none⟩ → w'.heap[g]? = w.heap[g]?) : Vals w' A c xs :=
  ⟨h.1, fun hp => by
    obtain ⟨g, o, e, hg, hc⟩ := h.2 hp
    have hb := hk g o e
    have hcell : ∀ j, w'.cell? ⟨g, j, none⟩ = w.cell? ⟨g, j, none⟩ := fun j => by unfold World.cell?; rw [hb]
    refine ⟨g, o, e, Nat.lt_of_lt_of_le hg hs, fun j v hv => ?_⟩
    obtain ⟨h0, h1, h2, h3, h4, h5⟩ := hc j v hv
    exact ⟨(hcell _).trans h0, (hcell _).trans h1, (hcell _).trans h2, (hcell _).trans h3, (hcell _).trans h4, (hcell _).trans h5⟩⟩
theorem vals_one {w : World} {B : Nat} {v : Pv} (hb : w.heap[B]? = some (.cells #[.int .i64 v.tag, .string (bs v.text), .int .u64 v.bits, .string (bs v.cls), .string (bs v.name), .string (bs v.desc)] 25 (0, 0))) : Vals w (some ⟨B, 0, none⟩) 1 [v] :=
  VRow.vals (vrow_of_block (base := 0) hb (Nat.zero_le _) [v] rfl rfl (by simp))
/-- A table that has taken in the first values of a list, one more. -/
theorem TabS.next {x : World} {base b m n : Nat} {us : Nat → Value} {O : List Pv} {i t : Nat} {v : Pv} (hv : O[i]? = some v) (hn : O.Nodup) (ht : v.tag = (t : Int))
    (h : TabS x base b m n us (fun k => if k = t then (fun t : Nat => Pv.row (O.take i) t) t ++ [v] else (fun t : Nat => Pv.row (O.take i) t) k) (fun u => if u = v then (((fun t : Nat => Pv.row (O.take i) t) t).length : Int) else Pv.nums O i u) (fun u => decide (u = v) || decide (u ∈ O.take i))) :
    TabS x base b m n us (fun t => Pv.row (O.take (i + 1)) t) (Pv.nums O (i + 1)) (fun u => decide (u ∈ O.take (i + 1))) := by
  refine h.same (fun k => ?_) (fun u => ?_) (fun u => ?_)
  · dsimp only
    rw [row_snoc hv]
    by_cases e : k = t
    · subst e
      rw [if_pos rfl, if_pos ht]
    · rw [if_neg e, if_neg (fun h => e (by omega)), List.append_nil]
  · rw [nums_next hn hv, ht]
  · obtain ⟨h1, rfl⟩ := List.getElem?_eq_some_iff.1 hv
    have hm : u ∈ O.take (i + 1) ↔ u ∈ O.take i ∨ u = O[i] := by
      rw [List.take_succ_eq_append_getElem h1, List.mem_append, List.mem_singleton]
    by_cases e : u = O[i]
    · rw [decide_eq_true e, decide_eq_true (hm.2 (.inr e))]; rfl
    · rw [decide_eq_false e, Bool.false_or]
      exact decide_eq_decide.2 ⟨fun h => hm.2 (.inl h), fun h => (hm.1 h).resolve_right e⟩
end Go.Proofs.Ytekcfjfkbiciaaa
