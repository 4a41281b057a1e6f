/- Layer 28, plain: what the document's order comes to, each value once; a table's rows and numbers. No program. -/
import Derived.Test.YtekcfjfkbiciaaaROrder
namespace Go.Proofs.Ytekcfjfkbiciaaa

theorem ord_nil (l : List Pv) : Pv.ord [] l = sd Pv.lt (clAll l) := by
  unfold Pv.ord Pv.rest
  have e : (clAll ([] ++ l)).filter (fun x => decide (x ∉ ([] : List Pv))) = clAll l := by
    rw [List.nil_append]
    exact List.filter_eq_self.2 fun x _ => by simp
  rw [e]
  rfl
/-- The document's closure: of the order's values, each once. -/
def Pv.dd : Pv → Bool → List Pv → List Pv
  | _, _, [] => []
  | p, first, v :: vs => (if first = true ∨ v ≠ p then [v] else []) ++ Pv.dd v false vs
theorem dd_slots : ∀ (l : List Pv), l.Nodup → ∀ (p : Pv) (first : Bool), first = true ∨ p ∉ l → Pv.dd p first (l.flatMap Pv.slot) = l
  | [], _, _, _, _ => rfl
  | v :: l, hn, p, first, h => by
    obtain ⟨h1, h2⟩ := List.nodup_cons.1 hn
    have hc : first = true ∨ v ≠ p := h.imp_right fun h e => h (e ▸ List.mem_cons_self ..)
    have ih := dd_slots l h2 v false (.inr h1)
    rw [List.flatMap_cons]
    have hs : v.slot = [v] ∨ v.slot = [v, v] := by
      unfold Pv.slot
      cases v.wide
      · exact .inl rfl
      · exact .inr rfl
    rcases hs with hs | hs <;> rw [hs]
    · simp only [List.cons_append, List.nil_append, Pv.dd]
      rw [if_pos hc, ih]
      rfl
    · simp only [List.cons_append, List.nil_append, Pv.dd]
      rw [if_pos hc, if_neg (by simp), ih]
      rfl
/-- The values of a tag. -/
def Pv.row (O : List Pv) (t : Int) : List Pv := O.filter fun v => decide (v.tag = t)
/-- A value's place among those of its tag. -/
def Pv.rk : List Pv → Pv → Nat
  | [], _ => 0
  | x :: xs, v => if x = v then 0 else (if x.tag = v.tag then 1 else 0) + Pv.rk xs v
theorem row_nil (t : Int) : Pv.row [] t = [] := rfl
theorem row_cons (x : Pv) (xs : List Pv) (t : Int) : Pv.row (x :: xs) t = (if x.tag = t then [x] else []) ++ Pv.row xs t := by
  unfold Pv.row
  rw [List.filter_cons]
  by_cases h : x.tag = t
  · simp [h]
  · simp [h]
theorem row_app (a b : List Pv) (t : Int) : Pv.row (a ++ b) t = Pv.row a t ++ Pv.row b t := List.filter_append ..
theorem row_snoc {O : List Pv} {i : Nat} {v : Pv} (h : O[i]? = some v) (t : Int) : Pv.row (O.take (i + 1)) t = Pv.row (O.take i) t ++ (if v.tag = t then [v] else []) := by
  obtain ⟨h1, rfl⟩ := List.getElem?_eq_some_iff.1 h
  rw [List.take_succ_eq_append_getElem h1, row_app, row_cons, row_nil, List.append_nil]
theorem row_len (O : List Pv) (t : Int) : (Pv.row O t).length ≤ O.length := List.length_filter_le ..
theorem mem_row {O : List Pv} {t : Int} {v : Pv} : v ∈ Pv.row O t ↔ v ∈ O ∧ v.tag = t := by
  unfold Pv.row
  rw [List.mem_filter]
  simp
/-- At its turn a value's number is how many of its tag there were. -/
theorem rk_take : ∀ {O : List Pv} {i : Nat} {v : Pv}, O.Nodup → O[i]? = some v → Pv.rk O v = (Pv.row (O.take i) v.tag).length
  | [], i, v, _, h => by simp at h
  | x :: xs, 0, v, _, h => by
    simp at h
    subst h
    simp [Pv.rk, Pv.row]
  | x :: xs, i + 1, v, hn, h => by
    obtain ⟨h1, h2⟩ := List.nodup_cons.1 hn
    rw [List.getElem?_cons_succ] at h
    have hv : v ∈ xs := List.mem_of_getElem? h
    have hne : x ≠ v := fun e => h1 (e ▸ hv)
    rw [Pv.rk, if_neg hne, List.take_succ_cons, row_cons, rk_take h2 h, List.length_append]
    by_cases e : x.tag = v.tag
    · rw [if_pos e, if_pos e]; simp
    · rw [if_neg e, if_neg e]; simp
theorem row_get : ∀ {O : List Pv} {v : Pv}, v ∈ O → (Pv.row O v.tag)[Pv.rk O v]? = some v
  | [], v, h => by simp at h
  | x :: xs, v, h => by
    rw [row_cons, Pv.rk]
    by_cases e : x = v
    · subst e; simp
    · have hv : v ∈ xs := (List.mem_cons.1 h).resolve_left fun h => e h.symm
      have ih := row_get hv
      rw [if_neg e]
      by_cases et : x.tag = v.tag
      · rw [if_pos et, if_pos et, Nat.add_comm]
        simpa using ih
      · rw [if_neg et, if_neg et]
        simpa using ih
theorem rk_lt {O : List Pv} {v : Pv} (h : v ∈ O) : Pv.rk O v < (Pv.row O v.tag).length := (List.getElem?_eq_some_iff.1 (row_get h)).1
/-- What the numbers say while values are put in. -/
def Pv.nums (O : List Pv) (i : Nat) (v : Pv) : Int := if v ∈ O.take i then ((Pv.rk O v : Nat) : Int) else 0
theorem nums_zero (O : List Pv) : Pv.nums O 0 = fun _ => 0 := by funext v; simp [Pv.nums]
theorem nums_next {O : List Pv} {i : Nat} {v : Pv} (hn : O.Nodup) (h : O[i]? = some v) : Pv.nums O (i + 1) = fun u => if u = v then ((Pv.row (O.take i) v.tag).length : Int) else Pv.nums O i u := by
  funext u
  have e := rk_take hn h
  obtain ⟨h1, rfl⟩ := List.getElem?_eq_some_iff.1 h
  have hm : u ∈ O.take (i + 1) ↔ u ∈ O.take i ∨ u = O[i] := by
    rw [List.take_succ_eq_append_getElem h1, List.mem_append, List.mem_singleton]
  unfold Pv.nums
  by_cases hu : u = O[i]
  · rw [if_pos (hm.2 (.inr hu)), if_pos hu, hu, e]
  · rw [if_neg hu]
    by_cases h2 : u ∈ O.take i
    · rw [if_pos (hm.2 (.inl h2)), if_pos h2]
    · rw [if_neg (fun h => (hm.1 h).elim h2 hu), if_neg h2]
theorem nums_all (O : List Pv) (v : Pv) : Pv.nums O O.length v = if v ∈ O then ((Pv.rk O v : Nat) : Int) else 0 := by
  unfold Pv.nums
  rw [List.take_length]
/-- Tags of what may be. -/
theorem chk_tag {v : Pv} (h : v.chk 0 9 5 = 0) : 1 ≤ v.tag ∧ v.tag ≤ 12 := by
  unfold Pv.chk at h
  by_cases h1 : v.tag = 1 ∨ v.tag = 7 ∨ v.tag = 8 ∨ v.tag = 3 ∨ v.tag = 4 ∨ v.tag = 5 ∨ v.tag = 6 ∨ v.tag = 12 ∨ v.tag = 9 ∨ v.tag = 10 ∨ v.tag = 11
  · omega
  · exfalso
    repeat' split at h
    all_goals first | omega | exact absurd h (by decide)
theorem row_none {O : List Pv} (h : ∀ v ∈ O, v.chk 0 9 5 = 0) {t : Int} (ht : t < 1 ∨ 12 < t) : Pv.row O t = [] := by
  refine List.eq_nil_iff_forall_not_mem.2 fun v hv => ?_
  obtain ⟨h1, h2⟩ := mem_row.1 hv
  have := chk_tag (h v h1)
  omega
end Go.Proofs.Ytekcfjfkbiciaaa
