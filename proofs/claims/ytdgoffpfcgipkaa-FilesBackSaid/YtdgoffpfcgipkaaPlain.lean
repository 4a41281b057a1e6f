/- Layer 32 in plain words: files as rows and bytes. No program. -/
import Derived.Test.YtdgoffpfcgipkaaStr
import Derived.Lib.SlicesCompact
import Derived.Lib.RowBridge
import Derived.Sort.Walk0
import Derived.Shelf.Spec.SearchS
namespace Go.Proofs.Ytdgoffpfcgipkaa
open Go.RowKit Go.Sort

/-- An entry, but a class's data. -/
structure Fi where
  name : List UInt8
  date : Nat
  clock : Nat
  cls : Bool
  data : List UInt8
/-- Its numbers are of 16 bits. -/
def Fi.ok (f : Fi) : Prop := f.date < 65536 ∧ f.clock < 65536
def Fi.bytes (f : Fi) : List UInt8 := if f.cls then [] else f.data
def Fi.strip (f : Fi) : Fi := { f with data := f.bytes }
def Fi.size (f : Fi) : Nat := if f.cls then 0 else f.data.length + 1
def Fi.sort (l : List (List UInt8)) : List (List UInt8) := Lib.compact (l.mergeSort fun x y => decide (x ≤ y))
def Fi.names (l : List Fi) : List (List UInt8) := Fi.sort (l.map Fi.name)
/-- A place of a text in a row: 0 if it is not there. -/
def Fi.num (ns : List (List UInt8)) (s : List UInt8) : Nat := ns.findIdx (· == s)
/-- The columns. -/
def Fi.col (ns : List (List UInt8)) : Nat → Fi → Nat
  | 0, f => Fi.num ns f.name
  | 1, f => f.date
  | 2, f => f.clock
  | _, f => f.size
def Fi.cols (ns : List (List UInt8)) (l : List Fi) (j : Nat) : List Int := l.map fun f => (Fi.col ns j f : Int)
def Fi.all (l : List Fi) : List UInt8 := l.flatMap Fi.bytes
theorem Fi.all_snoc {l : List Fi} {i : Nat} {f : Fi} (h : l[i]? = some f) : Fi.all (l.take (i + 1)) = Fi.all (l.take i) ++ f.bytes := by
  obtain ⟨h1, rfl⟩ := List.getElem?_eq_some_iff.1 h
  unfold Fi.all
  rw [List.take_succ_eq_append_getElem h1, List.flatMap_append]
  simp
theorem Fi.all_split {l : List Fi} {i : Nat} {f : Fi} (h : l[i]? = some f) : Fi.all (l.drop i) = f.bytes ++ Fi.all (l.drop (i + 1)) := by
  obtain ⟨h1, rfl⟩ := List.getElem?_eq_some_iff.1 h
  unfold Fi.all
  rw [List.drop_eq_getElem_cons h1, List.flatMap_cons]
theorem Fi.cols_snoc {ns : List (List UInt8)} {l : List Fi} {i : Nat} {f : Fi} (h : l[i]? = some f) (j : Nat) : Fi.cols ns (l.take (i + 1)) j = Fi.cols ns (l.take i) j ++ [(Fi.col ns j f : Int)] := by
  obtain ⟨h1, rfl⟩ := List.getElem?_eq_some_iff.1 h
  unfold Fi.cols
  rw [List.take_succ_eq_append_getElem h1, List.map_append]
  rfl
/-! ### Names rise -/
def Fi.Rises (ns : List (List UInt8)) : Prop := ns.Pairwise (· < ·)
theorem Fi.le_lt {x y z : List UInt8} (h1 : x ≤ y) (h2 : y < z) : x < z := by
  rcases Classical.em (x < z) with h | h
  · exact h
  · have h3 : z ≤ x := List.not_lt.1 h
    exact absurd h2 (List.not_lt.2 (List.le_trans h3 h1))
theorem Fi.lt_of {x y : List UInt8} (h1 : x ≤ y) (h2 : x ≠ y) : x < y := by
  rcases Classical.em (x < y) with h | h
  · exact h
  · exact absurd (List.le_antisymm h1 (List.not_lt.1 h)) h2
theorem Fi.lt_irrefl (x : List UInt8) : ¬ x < x := List.not_lt.2 (List.le_refl x)
theorem Fi.lt_ne {x y : List UInt8} (h : x < y) : x ≠ y := fun e => Fi.lt_irrefl y (e ▸ h)
theorem Fi.lt_le {x y : List UInt8} (h : x < y) : x ≤ y := by
  rcases List.le_total x y with h1 | h1
  · exact h1
  · exact absurd h (List.not_lt.2 h1)
theorem Fi.bang {zs : List (List UInt8)} {j : Nat} (h : j < zs.length) : zs.toArray[j]! = zs[j] := by simp [h]
theorem Fi.compact_mem (zs : List (List UInt8)) (x : List UInt8) : x ∈ Lib.compact zs ↔ x ∈ zs := by
  unfold Lib.compact Lib.compactUpTo
  constructor
  · intro h
    obtain ⟨j, hj, rfl⟩ := List.mem_map.1 h
    have hj2 := List.mem_range.1 (List.mem_filter.1 hj).1
    rw [Fi.bang hj2]
    exact List.getElem_mem hj2
  · intro h
    have key : ∀ j, (hj : j < zs.length) → zs[j] ∈ ((List.range zs.length).filter (Lib.keeps zs.toArray)).map (zs.toArray[·]!) := by
      intro j
      induction j with
      | zero =>
        intro hj
        refine List.mem_map.2 ⟨0, List.mem_filter.2 ⟨List.mem_range.2 hj, by simp [Lib.keeps]⟩, Fi.bang hj⟩
      | succ j ih =>
        intro hj
        by_cases hk : Lib.keeps zs.toArray (j + 1) = true
        · exact List.mem_map.2 ⟨j + 1, List.mem_filter.2 ⟨List.mem_range.2 hj, hk⟩, Fi.bang hj⟩
        · have : zs[j + 1] = zs[j] := by
            unfold Lib.keeps at hk
            rw [decide_eq_true_eq] at hk
            have h2 : zs.toArray[j + 1]! = zs.toArray[j + 1 - 1]! := Classical.byContradiction fun hne => hk (.inr hne)
            rw [Nat.add_sub_cancel, Fi.bang hj, Fi.bang (show j < zs.length by omega)] at h2
            exact h2
          rw [this]
          exact ih (by omega)
    obtain ⟨j, hj, rfl⟩ := List.mem_iff_getElem.1 h
    exact key j hj
theorem Fi.compact_rises {zs : List (List UInt8)} (h : zs.Pairwise (· ≤ ·)) : Fi.Rises (Lib.compact zs) := by
  unfold Fi.Rises Lib.compact Lib.compactUpTo
  rw [List.pairwise_map]
  have h0 : ((List.range zs.length).filter (Lib.keeps zs.toArray)).Pairwise (· < ·) := List.Pairwise.filter _ List.pairwise_lt_range
  refine List.Pairwise.imp_of_mem (R := (· < ·)) ?_ h0
  intro a b ha hb hab
  have ha2 := List.mem_range.1 (List.mem_filter.1 ha).1
  have hb2 := List.mem_range.1 (List.mem_filter.1 hb).1
  have hk := (List.mem_filter.1 hb).2
  unfold Lib.keeps at hk
  rw [decide_eq_true_eq] at hk
  have hne := hk.resolve_left (by omega)
  have le_of : ∀ i j, (hi : i < zs.length) → (hj : j < zs.length) → i ≤ j → zs[i] ≤ zs[j] := fun i j hi hj hij => by
    rcases Nat.lt_or_eq_of_le hij with hlt | rfl
    · exact List.pairwise_iff_getElem.1 h i j hi hj hlt
    · exact List.le_refl _
  have hp : b - 1 < zs.length := by omega
  rw [Fi.bang hb2, Fi.bang hp] at hne
  rw [Fi.bang ha2, Fi.bang hb2]
  exact Fi.le_lt (le_of a (b - 1) ha2 hp (by omega)) (Fi.lt_of (le_of (b - 1) b hp hb2 (by omega)) (Ne.symm hne))
theorem Fi.sorted (l : List (List UInt8)) : (l.mergeSort fun x y => decide (x ≤ y)).Pairwise (· ≤ ·) := by
  have h := List.pairwise_mergeSort (le := fun x y : List UInt8 => decide (x ≤ y)) (fun a b c h1 h2 => by simp only [decide_eq_true_eq] at *; exact List.le_trans h1 h2) (fun a b => by simp only [Bool.or_eq_true, decide_eq_true_eq]; exact List.le_total a b) l
  exact h.imp fun h => by simpa using h
theorem Fi.sort_rises (l : List (List UInt8)) : Fi.Rises (Fi.sort l) := Fi.compact_rises (Fi.sorted l)
theorem Fi.sort_mem (l : List (List UInt8)) (x : List UInt8) : x ∈ Fi.sort l ↔ x ∈ l := by
  unfold Fi.sort
  rw [Fi.compact_mem, List.mem_mergeSort]
theorem Fi.sort_same {ns : List (List UInt8)} (h : Fi.Rises ns) : Fi.sort ns = ns := by
  unfold Fi.sort
  rw [List.mergeSort_of_pairwise (h.imp fun h => by simpa using Fi.lt_le h)]
  refine Lib.compact_all ns fun j hj => ?_
  unfold Lib.keeps
  rw [decide_eq_true_eq]
  by_cases h0 : j = 0
  · exact .inl h0
  · refine .inr ?_
    have hp : j - 1 < ns.length := by omega
    rw [Fi.bang hj, Fi.bang hp]
    exact Ne.symm (Fi.lt_ne (List.pairwise_iff_getElem.1 h (j - 1) j hp hj (by omega)))
theorem Fi.names_mem (l : List Fi) (f : Fi) (h : f ∈ l) : f.name ∈ Fi.names l := (Fi.sort_mem _ _).2 (List.mem_map.2 ⟨f, h, rfl⟩)
theorem Fi.names_len (l : List Fi) : (Fi.names l).length ≤ l.length := by
  unfold Fi.names Fi.sort
  have := Lib.compact_length_le ((l.map Fi.name).mergeSort fun x y => decide (x ≤ y))
  simpa using this
/-- The number of a text that is there. -/
theorem Fi.num_at {ns : List (List UInt8)} {s : List UInt8} (h : s ∈ ns) : Fi.num ns s < ns.length ∧ ns[Fi.num ns s]? = some s := by
  unfold Fi.num
  have h1 : ns.findIdx (· == s) < ns.length := List.findIdx_lt_length_of_exists ⟨s, h, by simp⟩
  refine ⟨h1, ?_⟩
  have h2 := List.findIdx_getElem (xs := ns) (p := (· == s)) (w := h1)
  rw [List.getElem?_eq_getElem h1]
  rw [eq_of_beq h2]
theorem Fi.num_uniq {ns : List (List UInt8)} (hr : Fi.Rises ns) {i j : Nat} {s : List UInt8} (hi : ns[i]? = some s) (hj : ns[j]? = some s) : i = j := by
  obtain ⟨h1, e1⟩ := List.getElem?_eq_some_iff.1 hi
  obtain ⟨h2, e2⟩ := List.getElem?_eq_some_iff.1 hj
  rcases Nat.lt_trichotomy i j with h | h | h
  · have := List.pairwise_iff_getElem.1 hr i j h1 h2 h
    rw [e1, e2] at this
    exact absurd this (Fi.lt_irrefl s)
  · exact h
  · have := List.pairwise_iff_getElem.1 hr j i h2 h1 h
    rw [e1, e2] at this
    exact absurd this (Fi.lt_irrefl s)
/-- The search finds it. -/
theorem Fi.search {ns : List (List UInt8)} (hr : Fi.Rises ns) {s : List UInt8} (h : s ∈ ns) : Lib.bsGo (fun t => Op.bytesLess (bs (ns.getD t s)).toList (bs s).toList) ns.length 0 ns.length = Fi.num ns s := by
  obtain ⟨h1, h2⟩ := Fi.num_at h
  obtain ⟨_, e2⟩ := List.getElem?_eq_some_iff.1 h2
  refine Lib.bsGo_spec _ (Fi.num ns s) (fun t ht => ?_) (fun t ht => ?_) _ _ _ (by omega) (by omega) (by omega)
  · have ht2 : t < ns.length := by omega
    rw [bs_list, bs_list, bytesLess_eq, decide_eq_true_eq]
    rw [show ns.getD t s = ns[t] by simp [List.getD, ht2]]
    have := List.pairwise_iff_getElem.1 hr t (Fi.num ns s) ht2 h1 ht
    rwa [e2] at this
  · rw [bs_list, bs_list, bytesLess_eq, decide_eq_false_iff_not]
    by_cases ht2 : t < ns.length
    · rw [show ns.getD t s = ns[t] by simp [List.getD, ht2]]
      rcases Nat.lt_or_eq_of_le ht with h3 | h3
      · have := List.pairwise_iff_getElem.1 hr (Fi.num ns s) t h1 ht2 h3
        rw [e2] at this
        exact List.not_lt.2 (Fi.lt_le this)
      · subst h3
        rw [e2]
        exact Fi.lt_irrefl s
    · rw [show ns.getD t s = s by simp [List.getD, List.getElem?_eq_none (show ns.length ≤ t by omega)]]
      exact Fi.lt_irrefl s
end Go.Proofs.Ytdgoffpfcgipkaa
