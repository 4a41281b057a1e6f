/- Joined texts: CbD, Texts, WdA, WdB, WdC, BdF, PpMapD, PpWalksI, PpWalksJ, PpWalksG, PpWalksH, PpWalksK, BdG, BdH. -/
import Derived.Test.YtkdamaomhppkgaaGreatPk9
import Derived.Test.YtkdamaomhppkgaaGreatPk1
import Derived.Test.YtkdamaomhppkgaaGreatProg
import Derived.Lib.Hide
import Derived.Laws.OwnMore
import Derived.Laws.AppendOwn
import Derived.Test.YtkdamaomhppkgaaGreatPk8
import Derived.Test.YtkdamaomhppkgaaGreatPk5
import Derived.Sort.OwnSorted
import Derived.Lib.OwnBridge
import Derived.Lib.SliceRun
import Derived.Test.YtkdamaomhppkgaaGreatPk6
import Derived.LoopN
import Derived.Test.YtkdamaomhppkgaaGreatPk4
import Derived.Lib.SlMapFilter
import Derived.Lib.SlKeysI
import Derived.WideAt
import Derived.OpenShut
import Derived.Shelf.SlSortCmp.Whole1
import Derived.Shelf.SlMaps.DeleteFunc
import Derived.Shelf.SlIterI.Collect
import Derived.Shelf.SlSortCmp.NoneTotal
/- Layer 28 plain: all values of a table, tag by tag. No program. -/
namespace Go.Proofs.YtkdamaomhppkgaaGreat
open Pp

theorem tblR_part {most : Int} {r r' : List UInt8} {T : List Pv} (h : tblR most r = .ok (T, r')) (hrise : ∀ ss r0, wordsR most r = .ok (ss, r0) → risesL ss) : Part T := by
  unfold tblR at h
  cases hw : wordsR most r with
  | error e => rw [hw] at h; cases h
  | ok q =>
    obtain ⟨ss, r0⟩ := q
    rw [hw] at h
    dsimp only at h
    cases hb : bandN 10 r0 with
    | error e => rw [hb] at h; cases h
    | ok q2 =>
      obtain ⟨ns, r1⟩ := q2
      rw [hb] at h
      dsimp only at h
      have ht : ∀ v ∈ ss.map Pv.ofText, v.tag = 1 := fun v hv => by obtain ⟨s, _, rfl⟩ := List.mem_map.1 hv; rfl
      refine tblGo_part tOrder ns _ r1 T r' (part_texts (hrise ss r0 hw)) (by decide) (fun t htt => ?_) h
      have hh : readT t ∧ t ≠ 1 := by
        unfold tOrder at htt
        unfold readT
        simp only [List.mem_cons, List.not_mem_nil, or_false] at htt
        omega
      exact ⟨hh.1, by rw [row_only ht t, if_neg hh.2]⟩
/-- All values, tag by tag. -/
def tags13 : List Int := (List.range 13).map fun i : Nat => (i : Int)
def allOf (T : List Pv) : List Pv := rowsOf T tags13
theorem tags_nodup : tags13.Nodup := by decide
theorem tags_rise : tags13.Pairwise (· < ·) := by decide
theorem tags_mem {u : Int} (h0 : 0 ≤ u) (h1 : u ≤ 12) : u ∈ tags13 := List.mem_map.2 ⟨u.toNat, List.mem_range.2 (by omega), by omega⟩
theorem row_allOf (T : List Pv) {u : Int} (h0 : 0 ≤ u) (h1 : u ≤ 12) : Pv.row (allOf T) u = Pv.row T u := by
  unfold allOf
  rw [row_rowsOf T u tags_nodup, if_pos (tags_mem h0 h1)]
theorem mem_rowsOf {T : List Pv} {us : List Int} {v : Pv} : v ∈ rowsOf T us ↔ v ∈ T ∧ v.tag ∈ us := by
  unfold rowsOf
  rw [List.mem_flatMap]
  constructor
  · rintro ⟨t, ht, hv⟩
    obtain ⟨h1, h2⟩ := mem_row.1 hv
    exact ⟨h1, h2 ▸ ht⟩
  · rintro ⟨h1, h2⟩
    exact ⟨v.tag, h2, mem_row.2 ⟨h1, rfl⟩⟩
theorem mem_allOf {T : List Pv} (hT : Part T) {v : Pv} : v ∈ allOf T ↔ v ∈ T := by
  unfold allOf
  rw [mem_rowsOf]
  refine ⟨fun h => h.1, fun h => ⟨h, ?_⟩⟩
  have := chk_tag (hT.ok v h)
  exact tags_mem (by omega) (by omega)
theorem lt_tag {a b : Pv} (h : a.tag < b.tag) : Pv.lt a b := .inl h
theorem rowsOf_rise {T : List Pv} (hT : ∀ t, (Pv.row T t).Pairwise Pv.lt) : ∀ {us : List Int}, us.Pairwise (· < ·) → (rowsOf T us).Pairwise Pv.lt
  | [], _ => .nil
  | t :: us, h => by
    obtain ⟨h1, h2⟩ := List.pairwise_cons.1 h
    unfold rowsOf
    rw [List.flatMap_cons, List.pairwise_append]
    refine ⟨hT t, rowsOf_rise hT h2, fun a ha b hb => ?_⟩
    have ea := (mem_row.1 ha).2
    obtain ⟨_, hb2⟩ := mem_rowsOf.1 hb
    exact lt_tag (by rw [ea]; exact h1 _ hb2)
theorem allOf_rise {T : List Pv} (hT : Part T) : (allOf T).Pairwise Pv.lt := rowsOf_rise hT.rise tags_rise
theorem allOf_tbl {T : List Pv} (hT : Part T) : Tbl (allOf T) :=
  ⟨allOf_rise hT, fun v hv x hx => (mem_allOf hT).2 (hT.closed v ((mem_allOf hT).1 hv) x hx), fun v hv => hT.ok v ((mem_allOf hT).1 hv)⟩
/-- A number depends on the row of its tag alone. -/
theorem rk_row (T : List Pv) (v : Pv) : Pv.rk T v = Pv.rk (Pv.row T v.tag) v := by
  induction T with
  | nil => rfl
  | cons x xs ih =>
    rw [row_cons]
    by_cases e : x = v
    · subst e
      simp [Pv.rk]
    · rw [Pv.rk, if_neg e]
      by_cases et : x.tag = v.tag
      · rw [if_pos et, if_pos et, List.singleton_append, Pv.rk, if_neg e, if_pos et, ih]
      · rw [if_neg et, if_neg et, List.nil_append, ih]
        omega
theorem rk_allOf {T : List Pv} (hT : Part T) {v : Pv} (hv : v ∈ T) : Pv.rk (allOf T) v = Pv.rk T v := by
  have := chk_tag (hT.ok v hv)
  rw [rk_row (allOf T) v, rk_row T v, row_allOf T (by omega) (by omega)]
end Go.Proofs.YtkdamaomhppkgaaGreat

/- Rows of texts: of the call's own, and read. -/
namespace Go.Proofs.YtkdamaomhppkgaaGreat
open Go.RowKit

theorem infoStr : (Tryz.prog.info? 9).map (fun i => (i.zero, i.size, i.bytes)) = some (some (.string ⟨#[]⟩), 1, 16) := by kernel_rfl
/-- A row of texts of the call's own. -/
def TRow (w : World) (base : Nat) (v : Value) (xs : List (List UInt8)) : Prop := SRow w base 9 v xs
theorem TRow.grow {w w1 : World} {base : Nat} {v : Value} {xs : List (List UInt8)} (h : TRow w base v xs) (k : Below w.heap.size w w1) : TRow w1 base v xs := SRow.grow h k
theorem TRow.nil (w : World) (base : Nat) : TRow w base (.slice none 0 0) [] := SRow.nil w base 9
theorem TRow.one (w : World) (base : Nat) (h : base ≤ w.heap.size) (x : List UInt8) : TRow (w.alloc (.cells #[.string (bs x)] 9)) base (.slice (some ⟨w.heap.size, 0, none⟩) 1 1) [x] := by
  have := World.ownsRow_lit (base := base) (e := 9) (size := 1) w #[.string (bs x)] 1 h (by unfold maxLen; omega) rfl
  exact this
theorem wpList_appS {w : World} {ops : Array Oper} {rest : List Oper} {o : Oper} {a : Act} {Q : Exit → Act → World → Prop} (hgd : o.guard = none) (s x : Operand)
    (ho : o.op = .call { callee := .builtin .append, args := #[s, x], argTypes := #[66, 66] })
    (base : Nat) (v : Value) (xs : List (List UInt8)) (hv : a.eval s = v) (hown : TRow w base v xs) (B : Nat) (n : List UInt8) (t : TypeId) (fr : Nat × Nat) (hX : a.eval x = .slice (some ⟨B, 0, none⟩) 1 1)
    (hb : w.heap[B]? = some (.cells #[.string (bs n)] t fr)) (hn : xs.length ≤ 1000000000000) (hbase : base ≤ w.heap.size)
    (h : ∀ v' w', TRow w' base v' (xs ++ [n]) → Hop w w' v.ownBlock v'.ownBlock → wpList Tryz.prog ops Q rest (a.put o.dst v') w') : wpList Tryz.prog ops Q (o :: rest) a w := by
  obtain ⟨i0, hi, hz0, hz1, hz2⟩ := info_parts infoStr
  refine wpList_append_row hgd s x 66 66 ho base 9 i0 (.string ⟨#[]⟩) 1 16 Tryz.underlying66 hi hz0 hz1 hz2 rfl v _ _ hv hown _ 1 [.string (bs n)] hX (fun v' w' h1 h2 => h v' w' (SRow.app (ys := [n]) h1 rfl) h2) ?_ ?_ ?_ hbase
  · exact src_block Tryz.underlying66 1 1 1 _ #[.string (bs n)] _ _ hb rfl (by simp [Value.oneCell'])
  · unfold maxLen; omega
  · omega
/-- A row of texts that is read. -/
def Txt (w : World) (A : Option Addr) (c : Nat) (xs : List (List UInt8)) : Prop :=
  xs.length ≤ c ∧ (0 < xs.length → ∃ g o, A = some ⟨g, o, none⟩ ∧ g < w.heap.size ∧ ∀ (j : Nat) x, xs[j]? = some x → w.cell? ⟨g, o + j, none⟩ = some (.string (bs x)))
theorem Txt.grow {w w' : World} {A : Option Addr} {c : Nat} {xs : List (List UInt8)} (h : Txt w A c xs) (k : Below w.heap.size w w') : Txt w' A c xs :=
  ⟨h.1, fun hp => by
    obtain ⟨g, o, e, hg, hc⟩ := h.2 hp
    exact ⟨g, o, e, Nat.lt_of_lt_of_le hg k.size, fun j x hx => (k.cell (p := ⟨g, _, none⟩) hg).trans (hc j x hx)⟩⟩
theorem Txt.nil (w : World) (A : Option Addr) (c : Nat) : Txt w A c [] := ⟨Nat.zero_le _, fun h => by simp at h⟩
theorem Txt.at_ {w : World} {A : Option Addr} {c : Nat} {xs : List (List UInt8)} (h : Txt w A c xs) {i : Nat} (hi : i < xs.length) : ∃ g o x, A = some ⟨g, o, none⟩ ∧ g < w.heap.size ∧ xs[i]? = some x ∧ w.cell? ⟨g, o + i, none⟩ = some (.string (bs x)) := by
  obtain ⟨g, o, e, hg, hc⟩ := h.2 (by omega)
  exact ⟨g, o, _, e, hg, List.getElem?_eq_getElem hi, hc i _ (List.getElem?_eq_getElem hi)⟩
theorem TRow.reads {w : World} {base : Nat} {v : Value} {xs : List (List UInt8)} (h : TRow w base v xs) : ∃ A c, v = .slice A xs.length c ∧ Txt w A c xs := by
  rcases SRow.cases h with ⟨rfl, rfl⟩ | ⟨g, cap, rfl, _, hg, hc, hx⟩
  · exact ⟨none, 0, rfl, Txt.nil _ _ _⟩
  · exact ⟨_, cap, rfl, hc, fun _ => ⟨g, 0, rfl, hg, fun j x hj => by rw [Nat.zero_add]; exact hx j x hj⟩⟩
theorem TRow.kept {w w1 : World} {base : Nat} {v : Value} {xs : List (List UInt8)} {row : Option Nat} (h : TRow w base v xs) (g : w.grownBy w1 row) (hne : ∀ k, v.ownBlock = some k → row ≠ some k) : TRow w1 base v xs :=
  World.ownsRow.kept h g (by
    cases e : v.ownBlock with
    | none => exact .inl rfl
    | some k => exact .inr (fun e2 => hne k e e2.symm))
theorem TRow.cells {w : World} {base : Nat} {v : Value} {xs : List (List UInt8)} (h : TRow w base v xs) {g : Nat} (hg : v.ownBlock = some g) : base ≤ g ∧ ∃ cur, w.heap[g]? = some (.cells cur 9 (0, 0)) := by
  rcases h.2 with ⟨h, _⟩ | ⟨g', cap, cur, h, h1, hg', _⟩
  · rw [h] at hg; simp [Value.ownBlock] at hg
  · rw [h] at hg
    simp [Value.ownBlock] at hg
    subst hg
    exact ⟨h1, cur, hg'⟩
end Go.Proofs.YtkdamaomhppkgaaGreat

/- Layer 27: a list of words, sorted, each once. -/
namespace Go.Proofs.YtkdamaomhppkgaaGreat
open Go.RowKit Go.Sort

def Wo.sort (l : List (List UInt8)) : List (List UInt8) := Lib.compact (l.mergeSort fun x y => decide (x ≤ y))
/-! ### Names rise -/
def Wo.Rises (ns : List (List UInt8)) : Prop := ns.Pairwise (· < ·)
theorem Wo.le_lt {x y z : List UInt8} (h1 : x ≤ y) (h2 : y < z) : x < z := by
  rcases Classical.em (x < z) with h | h
  · exact h
  · have h3 : z ≤ x := List.not_lt.1 h
    exact absurd h2 (List.not_lt.2 (List.le_trans h3 h1))
theorem Wo.lt_of {x y : List UInt8} (h1 : x ≤ y) (h2 : x ≠ y) : x < y := by
  rcases Classical.em (x < y) with h | h
  · exact h
  · exact absurd (List.le_antisymm h1 (List.not_lt.1 h)) h2
theorem Wo.lt_irrefl (x : List UInt8) : ¬ x < x := List.not_lt.2 (List.le_refl x)
theorem Wo.lt_ne {x y : List UInt8} (h : x < y) : x ≠ y := fun e => Wo.lt_irrefl y (e ▸ h)
theorem Wo.lt_le {x y : List UInt8} (h : x < y) : x ≤ y := by
  rcases List.le_total x y with h1 | h1
  · exact h1
  · exact absurd h (List.not_lt.2 h1)
theorem Wo.bang {zs : List (List UInt8)} {j : Nat} (h : j < zs.length) : zs.toArray[j]! = zs[j] := by simp [h]
theorem Wo.compact_mem (zs : List (List UInt8)) (x : List UInt8) : x ∈ Lib.compact zs ↔ x ∈ zs := by
  unfold Lib.compact Lib.compactUpTo
  constructor
  · intro h
    obtain ⟨j, hj, rfl⟩ := List.mem_map.1 h
    have hj2 := List.mem_range.1 (List.mem_filter.1 hj).1
    rw [Wo.bang hj2]
    exact List.getElem_mem hj2
  · intro h
    have key : ∀ j, (hj : j < zs.length) → zs[j] ∈ ((List.range zs.length).filter (Lib.keeps zs.toArray)).map (zs.toArray[·]!) := by
      intro j
      induction j with
      | zero =>
        intro hj
        refine List.mem_map.2 ⟨0, List.mem_filter.2 ⟨List.mem_range.2 hj, by simp [Lib.keeps]⟩, Wo.bang hj⟩
      | succ j ih =>
        intro hj
        by_cases hk : Lib.keeps zs.toArray (j + 1) = true
        · exact List.mem_map.2 ⟨j + 1, List.mem_filter.2 ⟨List.mem_range.2 hj, hk⟩, Wo.bang hj⟩
        · have : zs[j + 1] = zs[j] := by
            unfold Lib.keeps at hk
            rw [decide_eq_true_eq] at hk
            have h2 : zs.toArray[j + 1]! = zs.toArray[j + 1 - 1]! := Classical.byContradiction fun hne => hk (.inr hne)
            rw [Nat.add_sub_cancel, Wo.bang hj, Wo.bang (show j < zs.length by omega)] at h2
            exact h2
          rw [this]
          exact ih (by omega)
    obtain ⟨j, hj, rfl⟩ := List.mem_iff_getElem.1 h
    exact key j hj
theorem Wo.compact_rises {zs : List (List UInt8)} (h : zs.Pairwise (· ≤ ·)) : Wo.Rises (Lib.compact zs) := by
  unfold Wo.Rises Lib.compact Lib.compactUpTo
  rw [List.pairwise_map]
  have h0 : ((List.range zs.length).filter (Lib.keeps zs.toArray)).Pairwise (· < ·) := List.Pairwise.filter _ List.pairwise_lt_range
  refine List.Pairwise.imp_of_mem (R := (· < ·)) ?_ h0
  intro a b ha hb hab
  have ha2 := List.mem_range.1 (List.mem_filter.1 ha).1
  have hb2 := List.mem_range.1 (List.mem_filter.1 hb).1
  have hk := (List.mem_filter.1 hb).2
  unfold Lib.keeps at hk
  rw [decide_eq_true_eq] at hk
  have hne := hk.resolve_left (by omega)
  have le_of : ∀ i j, (hi : i < zs.length) → (hj : j < zs.length) → i ≤ j → zs[i] ≤ zs[j] := fun i j hi hj hij => by
    rcases Nat.lt_or_eq_of_le hij with hlt | rfl
    · exact List.pairwise_iff_getElem.1 h i j hi hj hlt
    · exact List.le_refl _
  have hp : b - 1 < zs.length := by omega
  rw [Wo.bang hb2, Wo.bang hp] at hne
  rw [Wo.bang ha2, Wo.bang hb2]
  exact Wo.le_lt (le_of a (b - 1) ha2 hp (by omega)) (Wo.lt_of (le_of (b - 1) b hp hb2 (by omega)) (Ne.symm hne))
theorem Wo.sorted (l : List (List UInt8)) : (l.mergeSort fun x y => decide (x ≤ y)).Pairwise (· ≤ ·) := by
  have h := List.pairwise_mergeSort (le := fun x y : List UInt8 => decide (x ≤ y)) (fun a b c h1 h2 => by simp only [decide_eq_true_eq] at *; exact List.le_trans h1 h2) (fun a b => by simp only [Bool.or_eq_true, decide_eq_true_eq]; exact List.le_total a b) l
  exact h.imp fun h => by simpa using h
theorem Wo.sort_rises (l : List (List UInt8)) : Wo.Rises (Wo.sort l) := Wo.compact_rises (Wo.sorted l)
theorem Wo.sort_mem (l : List (List UInt8)) (x : List UInt8) : x ∈ Wo.sort l ↔ x ∈ l := by
  unfold Wo.sort
  rw [Wo.compact_mem, List.mem_mergeSort]
theorem Wo.sort_same {ns : List (List UInt8)} (h : Wo.Rises ns) : Wo.sort ns = ns := by
  unfold Wo.sort
  rw [List.mergeSort_of_pairwise (h.imp fun h => by simpa using Wo.lt_le h)]
  refine Lib.compact_all ns fun j hj => ?_
  unfold Lib.keeps
  rw [decide_eq_true_eq]
  by_cases h0 : j = 0
  · exact .inl h0
  · refine .inr ?_
    have hp : j - 1 < ns.length := by omega
    rw [Wo.bang hj, Wo.bang hp]
    exact Ne.symm (Wo.lt_ne (List.pairwise_iff_getElem.1 h (j - 1) j hp hj (by omega)))
/-- Texts that are read, as a source. -/
theorem Txt.src {w : World} {A : Option Addr} {c : Nat} {l : List (List UInt8)} (h : Txt w A c l) : Src Tryz.prog 1 66 (.slice A l.length c) l.length (sc l) w := by
  by_cases h0 : l.length = 0
  · obtain rfl := List.eq_nil_of_length_eq_zero h0
    cases A with
    | none => exact Src.ofNil w Tryz.underlying66 c
    | some a => exact Src.ofSlice w Tryz.underlying66 a 0 c [] rfl (fun j u hu => by simp at hu) (fun u hu => by cases hu)
  · obtain ⟨g, o, rfl, hg, hc⟩ := h.2 (by omega)
    refine Src.ofSlice w Tryz.underlying66 ⟨g, o, none⟩ _ c (sc l) (by simp [sc]) (fun j u hu => ?_) (fun u hu => ?_)
    · rw [addr_addB]
      simp only [sc, List.getElem?_map, Option.map_eq_some_iff] at hu
      obtain ⟨x, h1, rfl⟩ := hu
      exact hc j x h1
    · simp only [sc, List.mem_map] at hu
      obtain ⟨x, _, rfl⟩ := hu
      rfl
theorem wd_own_zero (w : World) (base : Nat) (e : TypeId) (h : base ≤ w.heap.size) : (w.alloc (.cells #[] e)).ownsRow base e 1 (.slice (some ⟨w.heap.size, 0, none⟩) 0 0) 0 [] :=
  World.ownsRow_lit (base := base) (e := e) (size := 1) w #[] 0 h (by unfold maxLen; omega) rfl

theorem wd_sort_end {w w1 : World} {g cap nn q : Nat} {os : Array Obj} {ss : List (List UInt8)} (hown : w1.ownsRow w.heap.size 9 1 (.slice (some ⟨g, 0, none⟩) ss.length cap) ss.length (ss.map encStr)) (hbel : Below w.heap.size w w1) (hbg : w.heap.size ≤ g) :
    TRow (putRow encStr (Sort.ahead (grow (putRow encStr (Sort.ahead w1 nn) g 0 (ss.mergeSort fun x y => decide (x ≤ y)).toArray) os) q) g 0 (Lib.compact (ss.mergeSort fun x y => decide (x ≤ y)) ++ List.replicate (ss.length - (Lib.compact (ss.mergeSort fun x y => decide (x ≤ y))).length) []).toArray)
      w.heap.size (.slice (some ⟨g, 0, none⟩) (Wo.sort ss).length cap) (Wo.sort ss) ∧
    Below w.heap.size w (putRow encStr (Sort.ahead (grow (putRow encStr (Sort.ahead w1 nn) g 0 (ss.mergeSort fun x y => decide (x ≤ y)).toArray) os) q) g 0 (Lib.compact (ss.mergeSort fun x y => decide (x ≤ y)) ++ List.replicate (ss.length - (Lib.compact (ss.mergeSort fun x y => decide (x ≤ y))).length) []).toArray) := by
  have hl2 : (ss.mergeSort fun x y => decide (x ≤ y)).length = ss.length := List.length_mergeSort ss
  have hle := Lib.compact_length_le (ss.mergeSort fun x y => decide (x ≤ y))
  rcases hown.2 with ⟨h0, _⟩ | ⟨g', cap', cur, hv, hbase, hb, h1, h2, h3, h4⟩
  · cases h0
  cases hv
  have hs := ownsRow_sorted (n := nn) (os := os) (ts := ss.mergeSort fun x y => decide (x ≤ y)) hl2 hbase hb h1 h2 h3
  have hc := Lib.ownsRow_putRow (q := q) (k := (Lib.compact (ss.mergeSort fun x y => decide (x ≤ y))).length) (ys := Lib.compact (ss.mergeSort fun x y => decide (x ≤ y)) ++ List.replicate (ss.length - (Lib.compact (ss.mergeSort fun x y => decide (x ≤ y))).length) []) hs (by simp; omega) (by omega)
  rw [List.take_left] at hc
  exact ⟨hc, Lib.below_putRow (hbel.grown (grownBy_sorted _) hbel.size (fun j hj => by cases hj; exact hbase)) hbg⟩
theorem wd_slice_nn {o : Option Addr} {n c : Nat} (h : o ≠ none) : (Value.slice o n c) ≠ .slice none 0 0 := fun e => by injection e with e; exact h e

end Go.Proofs.YtkdamaomhppkgaaGreat

/- The walks of layer 27: how many bytes two texts begin with alike; whether a list may be. -/
namespace Go.Proofs.YtkdamaomhppkgaaGreat
open Go.RowKit

theorem wd_index (l : List UInt8) (i : Nat) (c : UInt8) (h : l[i]? = some c) (k : IntKind) (n : Int) (hn : n = (i : Int)) (x : World) : (Instr.index 9 (.string (bs l)) (.int k n)).run Tryz.prog x = .ok (.int .u8 (c.toNat : Int)) x := by
  subst hn
  obtain ⟨h1, rfl⟩ := List.getElem?_eq_some_iff.1 h
  have hz := bs_size l
  rw [run_index_string x _ _ _ _ (by kernel_rfl), dif_pos (by omega : 0 ≤ (i : Int) ∧ (i : Int) < (bs l).size)]
  rfl
theorem wd_less (a b : List UInt8) : Op.bytesLess (bs a).toList (bs b).toList = decide (a < b) := by
  rw [bs_list, bs_list, bytesLess_eq]
theorem drop_atW {α : Type} {l : List α} {i : Nat} {x : α} (h : l[i]? = some x) : l.drop i = x :: l.drop (i + 1) := by
  obtain ⟨h3, rfl⟩ := List.getElem?_eq_some_iff.1 h
  exact List.drop_eq_getElem_cons h3
theorem shared_eq (x : UInt8) (l m : List UInt8) : shared (x :: l) (x :: m) = shared l m + 1 := by
  conv => lhs; unfold shared
  rw [if_pos rfl]
theorem shared_ne {x y : UInt8} (h : x ≠ y) (l m : List UInt8) : shared (x :: l) (y :: m) = 0 := by
  conv => lhs; unfold shared
  rw [if_neg h]
set_option maxHeartbeats 4000000 in
set_option maxRecDepth 100000 in
theorem shared_any (a b : List UInt8) (w : World) (ha : a.length ≤ 1000000000) (_hb : b.length ≤ 1000000000) :
    Calls Tryz.prog 53 #[.string (bs a), .string (bs b)] w fun ex y => ex = .returned (.int .i64 (shared a b : Nat)) ∧ Below w.heap.size w y := by
  have hsa := bs_size a
  have hsb := bs_size b
  go_enter Tryz.func53, Tryz.ntmps53
  go_wp2_with fail
  go_loopw [5] (fun t wr => ∃ n : Nat, n ≤ a.length ∧ n ≤ b.length ∧ t = .int .i64 n ∧ shared a b = n + shared (a.drop n) (b.drop n) ∧ Below w.heap.size w wr) (fun t _ => a.length - (intOf t).toNat)
  case atStart => exact ⟨0, Nat.zero_le _, Nat.zero_le _, rfl, by simp, Below.refl _ _⟩
  case round =>
    obtain ⟨n, hna, hnb, rfl, hs, hB⟩ := hrel
    have HB := Lib.hid hB
    have HS := Lib.hid hs
    clear hB hs
    by_cases h1 : n < a.length
    · obtain ⟨x, hx⟩ : ∃ x, a[n]? = some x := ⟨_, List.getElem?_eq_getElem h1⟩
      have p1 : decide ((n : Int) < (a.length : Int)) = true := decide_eq_true (by omega)
      by_cases h2 : n < b.length
      · obtain ⟨y, hy⟩ : ∃ y, b[n]? = some y := ⟨_, List.getElem?_eq_getElem h2⟩
        have p2 : decide ((n : Int) < (b.length : Int)) = true := decide_eq_true (by omega)
        have i1 := fun k w => wd_index a n x hx k (n : Int) rfl w
        have i2 := fun k w => wd_index b n y hy k (n : Int) rfl w
        have hd := HS.out
        rw [drop_atW hx, drop_atW hy] at hd
        by_cases hxy : x = y
        · subst hxy
          have q : ((x.toNat : Int) == (x.toNat : Int)) = true := by simp
          have hs2 := Lib.hid (show shared a b = (n + 1) + shared (a.drop (n + 1)) (b.drop (n + 1)) by rw [hd, shared_eq]; omega)
          clear hd hx hy
          go_wp2_with fail
          refine wp_region_grow (by kernel_rfl) (by kernel_rfl) ?_
          repeat (go_big_quiet_step (fail))
          refine wpQuiet_nil ?_
          intro g1
          obtain ⟨w1, hb1⟩ := g1
          have HB2 := Lib.hid (Below.after' HB.out hb1 (Nat.le_refl _))
          dsimp only
          clear hb1
          go_wp2_with fail
          go_roundw
          case rel => exact ⟨n + 1, by omega, by omega, by go_num, hs2.out, HB2.out⟩
          case measure => simp [intOf]; omega
        · have q : ((x.toNat : Int) == (y.toNat : Int)) = false := by
            simp only [beq_eq_false_iff_ne, ne_eq, Int.natCast_inj]
            exact fun e => hxy (UInt8.toNat_inj.1 e)
          have hs2 := Lib.hid (show shared a b = n by rw [hd, shared_ne hxy]; omega)
          clear hd hx hy hxy
          go_wp2_with fail
          refine wp_region_grow (by kernel_rfl) (by kernel_rfl) ?_
          repeat (go_big_quiet_step (fail))
          refine wpQuiet_nil ?_
          intro g1
          obtain ⟨w1, hb1⟩ := g1
          have HB2 := Lib.hid (Below.after' HB.out hb1 (Nat.le_refl _))
          dsimp only
          clear hb1
          go_wp2_with fail
          go_ret
          exact ⟨by rw [hs2.out]; rfl, HB2.out⟩
      · have p2 : decide ((n : Int) < (b.length : Int)) = false := decide_eq_false (by omega)
        have hs2 := Lib.hid (show shared a b = n by rw [HS.out, List.drop_of_length_le (l := b) (by omega)]; cases a.drop n <;> simp [shared])
        clear hx
        go_wp2_with fail
        refine wp_region_grow (by kernel_rfl) (by kernel_rfl) ?_
        repeat (go_big_quiet_step (fail))
        refine wpQuiet_nil ?_
        intro g1
        obtain ⟨w1, hb1⟩ := g1
        have HB2 := Lib.hid (Below.after' HB.out hb1 (Nat.le_refl _))
        dsimp only
        clear hb1
        go_wp2_with fail
        go_ret
        exact ⟨by rw [hs2.out]; rfl, HB2.out⟩
    · have p1 : decide ((n : Int) < (a.length : Int)) = false := decide_eq_false (by omega)
      have hs2 := Lib.hid (show shared a b = n by rw [HS.out, List.drop_of_length_le (l := a) (by omega)]; simp [shared])
      go_wp2_with fail
      refine wp_region_grow (by kernel_rfl) (by kernel_rfl) ?_
      repeat (go_big_quiet_step (fail))
      refine wpQuiet_nil ?_
      intro g1
      obtain ⟨w1, hb1⟩ := g1
      have HB2 := Lib.hid (Below.after' HB.out hb1 (Nat.le_refl _))
      dsimp only
      clear hb1
      go_wp2_with fail
      go_ret
      exact ⟨by rw [hs2.out]; rfl, HB2.out⟩
theorem risesL_cons {a : List UInt8} {l : List (List UInt8)} : risesL (a :: l) ↔ (∀ b, l.head? = some b → a < b) ∧ risesL l := by
  cases l with
  | nil => simp [risesL]
  | cons b l => simp [risesL]
/-- Do the first i rise? -/
theorem rises_take_succ {l : List (List UInt8)} {i : Nat} {s : List UInt8} (hi : l[i]? = some s) : risesL (l.take (i + 1)) ↔ risesL (l.take i) ∧ ∀ j p, i = j + 1 → l[j]? = some p → p < s := by
  induction l generalizing i with
  | nil => simp at hi
  | cons a l ih =>
    cases i with
    | zero => simp [risesL]
    | succ i =>
      rw [List.take_succ_cons, List.take_succ_cons, risesL_cons, risesL_cons, ih (by simpa using hi)]
      cases i with
      | zero =>
        cases l with
        | nil => simp at hi
        | cons b l =>
          simp at hi
          subst hi
          simp [risesL]
          constructor
          · rintro h j p hj hp
            subst hj
            simp at hp
            subst hp
            exact h
          · intro h
            exact h 0 a rfl (by simp)
      | succ i =>
        have hne : ∀ n, (l.take (n + 1)).head? = l.head? := fun n => by cases l <;> simp
        rw [hne, hne]
        constructor
        · rintro ⟨h1, h2, h3⟩
          refine ⟨⟨h1, h2⟩, fun j p hj hp => ?_⟩
          obtain ⟨k, rfl⟩ : ∃ k, j = k + 1 := ⟨j - 1, by omega⟩
          exact h3 k p (by omega) (by simpa using hp)
        · rintro ⟨⟨h1, h2⟩, h3⟩
          exact ⟨h1, h2, fun j p hj hp => h3 (j + 1) p (by omega) (by simpa using hp)⟩
theorem sumL_take_succ {l : List (List UInt8)} {i : Nat} {s : List UInt8} (hi : l[i]? = some s) : sumL (l.take (i + 1)) = sumL (l.take i) + s.length := by
  obtain ⟨h1, rfl⟩ := List.getElem?_eq_some_iff.1 hi
  unfold sumL
  rw [List.take_succ_eq_append_getElem h1, List.map_append, List.sum_append]
  simp
theorem sumL_take_le (l : List (List UInt8)) (i : Nat) : sumL (l.take i) ≤ sumL l := by
  have h : sumL l = sumL (l.take i) + sumL (l.drop i) := by
    unfold sumL
    rw [← List.sum_append, ← List.map_append, List.take_append_drop]
  omega
theorem rises_take_of {l : List (List UInt8)} (h : risesL l) : ∀ i, risesL (l.take i)
  | 0 => by simp [risesL]
  | i + 1 => by
    cases l with
    | nil => simp [risesL]
    | cons a l =>
      rw [List.take_succ_cons, risesL_cons]
      rw [risesL_cons] at h
      refine ⟨fun b hb => h.1 b ?_, rises_take_of h.2 i⟩
      cases i with
      | zero => simp at hb
      | succ i => cases l <;> simp_all
end Go.Proofs.YtkdamaomhppkgaaGreat

/- The walk of layer 27: whether a list may be. -/
namespace Go.Proofs.YtkdamaomhppkgaaGreat
open Go.RowKit

set_option maxHeartbeats 4000000 in
set_option maxRecDepth 100000 in
theorem wcheck_any (A : Option Addr) (c : Nat) (l : List (List UInt8)) (w : World) (hx : Txt w A c l) (hl : l.length ≤ 1000000) (hs : sumL l ≤ 1000000000) :
    Calls Tryz.prog 52 #[.slice A l.length c] w fun ex y => ex = .returned (.int .i64 (wordsE l)) ∧ y = w := by
  have HX := Lib.hid hx
  have hE := Lib.hid (show wordsE l = if ¬ risesL l then 2 else if 16777216 < sumL l then 3 else 0 by unfold wordsE; rw [if_neg (by omega)])
  have p0 : decide ((16777216 : Int) ≤ (l.length : Int)) = false := decide_eq_false (by omega)
  have p00 : decide (16777216 ≤ l.length) = false := decide_eq_false (by omega)
  clear hx
  go_enter Tryz.func52, Tryz.ntmps52
  go_wp2_with fail
  go_loop [3, 11] (fun s t => ∃ i : Nat, i ≤ l.length ∧ t = .int .i64 i ∧ s = .int .i64 (sumL (l.take i) : Nat) ∧ risesL (l.take i)) (fun _ t => l.length - (intOf t).toNat)
  case atStart => exact ⟨0, Nat.zero_le _, rfl, rfl, by simp [risesL]⟩
  case round =>
    obtain ⟨i, hi, rfl, rfl, hr⟩ := hrel
    have hsl := sumL_take_le l i
    have HR := Lib.hid hr
    clear hr
    by_cases h1 : i < l.length
    · obtain ⟨g, o, s, rfl, hg, hsi, hct⟩ := HX.out.at_ h1
      have hst := Lib.hid (rises_take_succ hsi)
      have hsum := Lib.hid (sumL_take_succ hsi)
      have hsl2 := sumL_take_le l (i + 1)
      rw [hsum.out] at hsl2
      have hsz := bs_size s
      have p1 : decide ((i : Int) < (l.length : Int)) = true := decide_eq_true (by omega)
      by_cases h0 : i = 0
      · have q0 : decide ((0 : Int) < (i : Int)) = false := decide_eq_false (by omega)
        have q00 : decide (0 < i) = false := decide_eq_false (by omega)
        have hr2 := Lib.hid (hst.out.2 ⟨HR.out, fun j p h => by omega⟩)
        clear hst hsi h0
        generalize hS : sumL (l.take i) = S0 at *
        have hsum2 := hsum
        clear hS
        go_wp2_with fail
        go_round
        case rel => exact ⟨i + 1, by omega, by go_num, by rw [hsum2.out]; go_num, hr2.out⟩
        case measure => simp [intOf]; omega
      · obtain ⟨j, hj⟩ : ∃ j, i = j + 1 := ⟨i - 1, by omega⟩
        have q0 : decide ((0 : Int) < (i : Int)) = true := decide_eq_true (by omega)
        have q00 : decide (0 < i) = true := decide_eq_true (by omega)
        obtain ⟨p, hp⟩ : ∃ p, l[j]? = some p := ⟨_, List.getElem?_eq_getElem (by omega)⟩
        have hcp : w.cell? ⟨g, o + j, none⟩ = some (.string (bs p)) := by
          obtain ⟨g', o', e', _, hc'⟩ := HX.out.2 (by omega)
          cases e'
          exact hc' j p hp
        have ej : (i : Int) - 1 = (j : Int) := by omega
        have hjl : j < l.length := by omega
        have hle := wd_less p s
        have HJ := Lib.hid hj
        by_cases hlt : p < s
        · have q : Op.bytesLess (bs p).toList (bs s).toList = true := by rw [hle]; exact decide_eq_true hlt
          have hr2 := Lib.hid (hst.out.2 ⟨HR.out, fun k p' h hp' => by
            obtain rfl : k = j := by omega
            rw [hp] at hp'
            cases hp'
            exact hlt⟩)
          clear hst hsi hp hle hlt h0 hj
          generalize hS : sumL (l.take i) = S0 at *
          have hsum2 := hsum
          clear hS
          go_wp2_with fail
          go_round
          case rel => exact ⟨i + 1, by omega, by go_num, by rw [hsum2.out]; go_num, hr2.out⟩
          case measure => simp [intOf]; omega
        · have q : Op.bytesLess (bs p).toList (bs s).toList = false := by rw [hle]; exact decide_eq_false hlt
          have hfin := Lib.hid (show wordsE l = 2 by
            rw [hE.out, if_pos]
            intro hrl
            exact hlt ((hst.out.1 (rises_take_of hrl _)).2 j p hj hp))
          clear hst hsi hp hle hlt h0 hj
          go_wp2_with fail
          go_ret
          exact ⟨by rw [hfin.out]; rfl, rfl⟩
    · have hii : i = l.length := by omega
      subst hii
      have ht : l.take l.length = l := List.take_length
      have hr := HR.out
      rw [ht] at hr
      by_cases hb : 16777216 < sumL l
      · have q : decide ((16777216 : Int) < (sumL (l.take l.length) : Int)) = true := by rw [ht]; exact decide_eq_true (by omega)
        have q2 : decide (16777216 < sumL (l.take l.length)) = true := by rw [ht]; exact decide_eq_true hb
        have q5 : decide ((16777216 : Int) < (sumL l : Int)) = true := decide_eq_true (by omega)
        have q6 : decide (16777216 < sumL l) = true := decide_eq_true hb
        have hfin := Lib.hid (show wordsE l = 3 by rw [hE.out, if_neg (fun h => h hr), if_pos hb])
        clear hr ht hb
        go_wp2_with fail
        go_ret
        exact ⟨by rw [hfin.out]; rfl, rfl⟩
      · have q : decide ((16777216 : Int) < (sumL (l.take l.length) : Int)) = false := by rw [ht]; exact decide_eq_false (by omega)
        have q2 : decide (16777216 < sumL (l.take l.length)) = false := by rw [ht]; exact decide_eq_false hb
        have q5 : decide ((16777216 : Int) < (sumL l : Int)) = false := decide_eq_false (by omega)
        have q6 : decide (16777216 < sumL l) = false := decide_eq_false hb
        have hfin := Lib.hid (show wordsE l = 0 by rw [hE.out, if_neg (fun h => h hr), if_neg hb])
        clear hr ht hb
        go_wp2_with fail
        go_ret
        exact ⟨by rw [hfin.out]; rfl, rfl⟩
end Go.Proofs.YtkdamaomhppkgaaGreat

/- The walk of layer 26: a row in the coding that is shortest. -/
namespace Go.Proofs.YtkdamaomhppkgaaGreat
open Go.RowKit Pp

theorem freshB1 {x : World} {B base : Nat} {y : Int} (h : x.heap[B]? = some (.cells #[.int .u8 y] 5 (0, 0))) (hb : base ≤ B) (a : UInt8) (ha : y = (a.toNat : Int)) : BRow x base 5 (.slice (some ⟨B, 0, none⟩) 1 1) [a] := by
  subst ha
  exact ⟨rfl, .inr ⟨B, 1, _, rfl, hb, h, Nat.le_refl _, by unfold maxLen; omega, rfl, rfl⟩⟩
/-- A row that is none, or the best so far. -/
def BestIs (w : World) (base : Nat) (v : Value) : Option (List UInt8) → Prop
  | none => v = .slice none 0 0
  | some s => ∃ g c, v = .slice (some ⟨g, 0, none⟩) s.length c ∧ BRow w base 5 v s
theorem BestIs.grow {w w1 : World} {base : Nat} {v : Value} {o : Option (List UInt8)} (h : BestIs w base v o) (k : Below w.heap.size w w1) : BestIs w1 base v o := by
  cases o with
  | none => exact h
  | some s =>
    obtain ⟨g, c, h1, h2⟩ := h
    exact ⟨g, c, h1, h2.grow k⟩
theorem bestIs_of {w : World} {base : Nat} {v : Value} {s : List UInt8} (h : BRow w base 5 v s) (hs : 0 < s.length) : BestIs w base v (some s) := by
  rcases h.2 with ⟨_, hn⟩ | ⟨g, cap, cur, e, _⟩
  · omega
  · exact ⟨g, cap, e, h⟩
theorem brow_base {w : World} {base b' : Nat} {v : Value} {l : List UInt8} (h : BRow w base 5 v l) (hb : b' ≤ base) : BRow w b' 5 v l := by
  refine ⟨h.1, ?_⟩
  rcases h.2 with h2 | ⟨g, cap, cur, h2, h3, h4⟩
  · exact .inl h2
  · exact .inr ⟨g, cap, cur, h2, Nat.le_trans hb h3, h4⟩
theorem row_lenB (c : Cod) (hc : c.ok) : ∀ (l : List Int) (last : Int) (b : List UInt8), c.row last l = some b → b.length ≤ 5 * l.length
  | [], last, b, h => by
    simp only [Cod.row, Option.some.injEq] at h
    subst h
    simp
  | v :: l, last, b, h => by
    unfold Cod.row at h
    split at h
    · cases hr : c.row v l with
      | none => rw [hr] at h; cases h
      | some b' =>
        rw [hr] at h
        simp only [Option.map_some, Option.some.injEq] at h
        subst h
        have h1 := row_lenB c hc l v b' hr
        have h2 := putU_le5 hc (plainI c.s (c.diff last v)).toNat
        rw [List.length_append, List.length_cons]
        omega
    · cases h
theorem shortTo_succ {l : List Int} {i : Nat} {c : Cod} (hc : cods[i]? = some c) : shortTo l (i + 1) = shortIn l (shortTo l i) i c := by
  conv => lhs; unfold shortTo
  rw [hc]
theorem shortIn_none {l : List Int} {best : Option (List UInt8)} {i : Nat} {c : Cod} (h : c.row 0 l = none) : shortIn l best i c = best := by unfold shortIn; rw [h]
theorem shortIn_first {l : List Int} {i : Nat} {c : Cod} {b : List UInt8} (h : c.row 0 l = some b) : shortIn l none i c = some (UInt8.ofNat i :: b) := by unfold shortIn; rw [h]
theorem shortIn_more {l : List Int} {i : Nat} {c : Cod} {b s : List UInt8} (h : c.row 0 l = some b) : shortIn l (some s) i c = if b.length + 1 < s.length then some (UInt8.ofNat i :: b) else some s := by unfold shortIn; rw [h]
set_option maxHeartbeats 8000000 in
set_option maxRecDepth 100000 in
theorem shortest_any (A : Option Addr) (cc : Nat) (l : List Int) (w : World) (hx : Ints w A cc l) (hI : ∀ v ∈ l, I64 v) (hl : l.length ≤ 10000000) :
    Calls Tryz.prog 56 #[.slice A l.length cc] w (RowRes (short l) w) := by
  have HX := Lib.hid hx
  have HRw := Lib.hid (fun c (hc : Cod.ok c) w hx => row_any c hc A cc l w hx hI hl)
  unfold Cod.val at HRw
  have qn : ∀ (w : World) (a : Option Addr) (n c : Nat), (binOp .eql 23 (.slice a n c) (.slice none 0 0)).run Tryz.prog w = .ok (.bool a.isNone) w := fun w a n c => Lib.run_eql_slice_nil w _ _ _ _ _ _ _ Tryz.underlying23
  clear hx hI
  go_enter Tryz.func56, Tryz.ntmps56
  go_wp2_with fail
  refine (codings_any w).mono ?_
  rintro ex y ⟨rfl, hcd, hb1⟩
  have HCD := Lib.hid hcd
  have HB := Lib.hid hb1
  clear hcd hb1
  go_wp2_with fail
  go_loopw [4, 11] (fun v t wr => ∃ i : Nat, i ≤ 15 ∧ t = .int .i64 i ∧ BestIs wr w.heap.size v (shortTo l i) ∧ CodsAt wr w.heap.size ∧ Below w.heap.size w wr) (fun _ t _ => 15 - (intOf t).toNat)
  case atStart => exact ⟨0, by omega, rfl, rfl, HCD.out, HB.out⟩
  case round =>
    obtain ⟨i, hi, rfl, hbest, hcd, hB⟩ := hrel
    have HBS := Lib.hid hbest
    have HCD := Lib.hid hcd
    have HW := Lib.hid hB
    clear HB
    by_cases h1 : i < 15
    · obtain ⟨c, hc⟩ : ∃ c, cods[i]? = some c := ⟨_, List.getElem?_eq_getElem (show i < cods.length from h1)⟩
      have hok := cods_ok c (List.mem_of_getElem? hc)
      obtain ⟨d0, d1, d2, d3⟩ := hcd.at_ hc
      have hz := hcd.lt
      have hst := Lib.hid (shortTo_succ (l := l) hc)
      have k1 := Lib.hid ((Below.refl wr.heap.size wr).alloc (Nat.le_refl _) (.cells #[.int .i64 c.b, .int .i64 c.h, .int .i64 c.s, .int .i64 c.d] 122))
      have p1 : decide ((i : Int) < 15) = true := decide_eq_true (by omega)
      have HOK := Lib.hid hok
      clear hc hok hbest hcd hB
      go_wp2_with fail
      refine (HRw.out c HOK.out _ ((HX.out.grow HW.out).grow k1.out)).mono ?_
      intro ex y1 hres
      cases hrow : c.row 0 l with
      | none =>
        rw [hrow] at hres
        obtain ⟨rfl, hb2⟩ := hres
        have kk := k1.out.trans (hb2.mono k1.out.size)
        have hfin := Lib.hid (hst.out.trans (shortIn_none hrow))
        have HBS2 := Lib.hid (HBS.out.grow kk)
        have HCD2 := Lib.hid (HCD.out.grow kk)
        have HW2 := Lib.hid (Below.after' HW.out kk (Nat.le_refl _))
        clear hb2 kk hrow d0 d1 d2 d3 hz HRw
        go_wp2_with fail
        go_roundw
        case rel => exact ⟨i + 1, by omega, by go_num, by rw [hfin.out]; exact HBS2.out, HCD2.out, HW2.out⟩
        case measure => simp [intOf]; omega
      | some bb =>
        rw [hrow] at hres
        obtain ⟨u, rfl, hr2, hb2⟩ := hres
        have hbl := row_lenB c HOK.out l 0 bb hrow
        obtain ⟨A2, c2, rfl, hba⟩ := hr2.at_
        have kk := k1.out.trans (hb2.mono k1.out.size)
        have HBS2 := HBS.out.grow kk
        have HCD2 := Lib.hid (HCD.out.grow kk)
        have HW2 := Lib.hid (Below.after' HW.out kk (Nat.le_refl _))
        have HBA := Lib.hid hba
        clear hb2 kk d0 d1 d2 d3 hz HRw hba hr2
        cases hs : shortTo l i with
        | none =>
          rw [hs] at HBS2
          obtain rfl := HBS2
          have hf0 := hst.out
          rw [hs, shortIn_first hrow] at hf0
          have hfin := Lib.hid hf0
          clear hs hrow hst HBS hf0
          have hby := Lib.hid (show ((i : Int)) = ((UInt8.ofNat i).toNat : Int) by rw [ofNat_lt (by omega)])
          go_wp2_with (at_builtin; refine wpList_appBy rfl _ _ _ rfl w.heap.size _ [UInt8.ofNat i] bb rfl (freshB1 (heap_alloc_new _ _) (Nat.le_trans HW2.out.size (Nat.le_refl _)) _ hby.out) _ rfl (HBA.out.grow ((Below.refl _ _).alloc (Nat.le_refl _) _)).src (by simp; omega) (Nat.le_trans HW2.out.size (by simp)) ?_; intro v3 w3 hr3 hp3; have HR3 := Lib.hid hr3; have HB3 := Lib.hid (HW2.out.trans ((((Below.refl _ _).alloc (Nat.le_refl _) (.cells #[.int .u8 (i : Int)] 5)).trans (hp3.below (by simp) (fun k hk => by cases hk; simp))).mono HW2.out.size)); have HCD3 := Lib.hid (HCD2.out.grow (((Below.refl _ _).alloc (Nat.le_refl _) (.cells #[.int .u8 (i : Int)] 5)).trans (hp3.below (by simp) (fun k hk => by cases hk; simp)))); clear hr3 hp3)
          go_roundw
          case rel => exact ⟨i + 1, by omega, by go_num, by rw [hfin.out]; exact bestIs_of HR3.out (by simp), HCD3.out, HB3.out⟩
          case measure => simp [intOf]; omega
        | some s =>
          rw [hs] at HBS2
          obtain ⟨g, c9, rfl, hrs⟩ := HBS2
          have hfin0 := hst.out
          rw [hs, shortIn_more hrow] at hfin0
          by_cases hlt : bb.length + 1 < s.length
          · have p2 : decide ((bb.length : Int) + 1 < (s.length : Int)) = true := decide_eq_true (by omega)
            have p3 : decide (bb.length + 1 < s.length) = true := decide_eq_true hlt
            have hfin := Lib.hid (hfin0.trans (if_pos hlt))
            clear hs hrow hst HBS hfin0 hrs
            have hby := Lib.hid (show ((i : Int)) = ((UInt8.ofNat i).toNat : Int) by rw [ofNat_lt (by omega)])
            go_wp2_with (at_builtin; refine wpList_appBy rfl _ _ _ rfl w.heap.size _ [UInt8.ofNat i] bb rfl (freshB1 (heap_alloc_new _ _) (Nat.le_trans HW2.out.size (Nat.le_refl _)) _ hby.out) _ rfl (HBA.out.grow ((Below.refl _ _).alloc (Nat.le_refl _) _)).src (by simp; omega) (Nat.le_trans HW2.out.size (by simp)) ?_; intro v3 w3 hr3 hp3; have HR3 := Lib.hid hr3; have HB3 := Lib.hid (HW2.out.trans ((((Below.refl _ _).alloc (Nat.le_refl _) (.cells #[.int .u8 (i : Int)] 5)).trans (hp3.below (by simp) (fun k hk => by cases hk; simp))).mono HW2.out.size)); have HCD3 := Lib.hid (HCD2.out.grow (((Below.refl _ _).alloc (Nat.le_refl _) (.cells #[.int .u8 (i : Int)] 5)).trans (hp3.below (by simp) (fun k hk => by cases hk; simp)))); clear hr3 hp3)
            go_roundw
            case rel => exact ⟨i + 1, by omega, by go_num, by rw [hfin.out]; exact bestIs_of HR3.out (by simp), HCD3.out, HB3.out⟩
            case measure => simp [intOf]; omega
          · have p2 : decide ((bb.length : Int) + 1 < (s.length : Int)) = false := decide_eq_false (by omega)
            have p3 : decide (bb.length + 1 < s.length) = false := decide_eq_false hlt
            have hfin := Lib.hid (hfin0.trans (if_neg hlt))
            have HRS := Lib.hid hrs
            clear hs hrow hst HBS hfin0 hrs
            go_wp2_with fail
            go_roundw
            case rel => exact ⟨i + 1, by omega, by go_num, by rw [hfin.out]; exact ⟨g, c9, rfl, HRS.out⟩, HCD2.out, HW2.out⟩
            case measure => simp [intOf]; omega
    · have hii : i = 15 := by omega
      subst hii
      have p1 : decide ((15 : Int) < 15) = false := by decide
      clear hcd hB hbest
      cases hs : shortTo l 15 with
      | none =>
        have hbs := HBS.out
        rw [hs] at hbs
        obtain rfl := hbs
        have hfin := Lib.hid (show short l = none from hs)
        clear hs HBS
        go_wp2_with fail
        go_ret2
        exact rowRes_none hfin.out rfl HW.out
      | some s =>
        have hbs := HBS.out
        rw [hs] at hbs
        obtain ⟨g, c9, rfl, hrs⟩ := hbs
        have hfin := Lib.hid (show short l = some s from hs)
        have HRS := Lib.hid hrs
        clear hs HBS hrs
        go_wp2_with fail
        go_ret2
        exact rowRes_some hfin.out rfl HRS.out HW.out
end Go.Proofs.YtkdamaomhppkgaaGreat

/- Maps of ints by ints: entries struck, keys collected. -/
namespace Go.Proofs.YtkdamaomhppkgaaGreat.Pp
open Go.RowKit Go.Maps

/-- What says that an entry goes: its number is under 2. -/
def under2 (_ : Lit) (d : DataW Unit) : Bool :=
  match d with
  | .lit (.int .i64 v) => decide (v < 2)
  | _ => false
/-- The entries under 2 are gone. -/
theorem MapIs.struck {w : World} {b n : Nat} {D : DataW Unit} {f : Int → Int} (hO : OMap w b n D) (h : MapIs D f) : MapIs (Lib.deleteFuncD under2 D) (fun k => if f k < 2 then 0 else f k) := by
  obtain ⟨es, rfl, hap, hkl⟩ := hO.entries lawI
  have hfind : ∀ k, f k ≠ 0 → ∃ p ∈ es, p.1 = .int .i64 k := fun k hk => by
    have h1 := h.2 k
    rw [decide_eq_true hk, has_eq, List.any_eq_true] at h1
    obtain ⟨p, hp, hs⟩ := h1
    exact ⟨p, hp, WideAt.sameKey_eq hs⟩
  have hval : ∀ p ∈ es, ∀ k, p.1 = .int .i64 k → p.2 = .lit (.int .i64 (f k)) ∧ f k ≠ 0 := fun p hp k hk => by
    have hm : ((.int .i64 k : Lit), p.2) ∈ es := by rw [← hk]; exact hp
    refine ⟨(WideAt.atKey_mem (.lit (.int .i64 0)) (show WideAt.IsKeyLit (.int .i64 k) from trivial) hap hm).symm.trans (h.1 k), fun h0 => ?_⟩
    have h1 := h.2 k
    rw [h0] at h1
    have h2 : Maps.has (.map es) (.int .i64 k) = true := by
      rw [has_eq, List.any_eq_true]
      exact ⟨_, hm, WideAt.sameKey_self (show WideAt.IsKeyLit (.int .i64 k) from trivial)⟩
    rw [h2] at h1
    simp at h1
  have hpd : ∀ p ∈ es, ∀ k, p.1 = .int .i64 k → under2 p.1 p.2 = decide (f k < 2) := fun p hp k hk => by
    rw [(hval p hp k hk).1]; rfl
  have hno : ∀ k, f k < 2 → ∀ p ∈ es.filter (fun p => !under2 p.1 p.2), p.1 ≠ .int .i64 k := fun k hk p hp e => by
    obtain ⟨h1, h2⟩ := List.mem_filter.1 hp
    rw [hpd p h1 k e, decide_eq_true hk] at h2
    cases h2
  refine ⟨fun k => ?_, fun k => ?_⟩
  · show (DataW.map (es.filter fun p => !under2 p.1 p.2)).atKey _ _ = DataW.lit (Lit.int .i64 (if f k < 2 then 0 else f k))
    by_cases hk : f k < 2
    · rw [if_pos hk, WideAt.atKey_none _ (hno k hk)]
    · rw [if_neg hk]
      obtain ⟨p, hp, e⟩ := hfind k (by omega)
      have hv := (hval p hp k e).1
      have hm : ((.int .i64 k : Lit), (DataW.lit (.int .i64 (f k)) : DataW Unit)) ∈ es.filter (fun p => !under2 p.1 p.2) := by
        rw [← hv, ← e]
        exact List.mem_filter.2 ⟨hp, by rw [hpd p hp k e, decide_eq_false hk]; rfl⟩
      exact WideAt.atKey_mem (.lit (.int .i64 0)) (show WideAt.IsKeyLit (.int .i64 k) from trivial) (hap.filter _) hm
  · show Maps.has (DataW.map (es.filter fun p => !under2 p.1 p.2)) _ = decide ((if f k < 2 then 0 else f k) ≠ 0)
    by_cases hk : f k < 2
    · rw [if_pos hk, has_eq, List.any_eq_false.2 (fun p hp hs => hno k hk p hp (WideAt.sameKey_eq hs))]
      simp
    · rw [if_neg hk]
      obtain ⟨p, hp, e⟩ := hfind k (by omega)
      rw [has_eq, List.any_eq_true.2 ⟨p, List.mem_filter.2 ⟨hp, by rw [hpd p hp k e, decide_eq_false hk]; rfl⟩, by rw [e]; exact WideAt.sameKey_self (show WideAt.IsKeyLit (.int .i64 k) from trivial)⟩]
      symm
      exact decide_eq_true (by omega)
/-- The keys: each once, just those that have a number. -/
theorem MapIs.keys {w : World} {b n : Nat} {D : DataW Unit} {f : Int → Int} (hO : OMap w b n D) (h : MapIs D f) : (intKeys D).Nodup ∧ (∀ k, k ∈ intKeys D ↔ f k ≠ 0) ∧ (∀ k ∈ intKeys D, I64 k) ∧ (intKeys D).length = Maps.size D := by
  obtain ⟨es, rfl, hap, hkl⟩ := hO.entries lawI
  obtain ⟨es', hD', hko⟩ := hO.keysOf
  obtain rfl : es = es' := by simpa using hD'
  have hk : ∀ p ∈ es, ∃ x, p.1 = .int .i64 x ∧ I64 x := fun p hp => by
    obtain ⟨v, hv⟩ := hko p hp
    obtain ⟨x, _, hx, hwf⟩ := Maps.keyOf_i64 Tryz.underlying3 hv
    refine ⟨x, hx, ?_⟩
    exact bounds_i64 hwf
  refine ⟨?_, fun k => ?_, fun k hm => ?_, by simp [intKeys, Maps.size]⟩
  · show (es.map fun p => Go.intOf p.1).Nodup
    refine List.pairwise_map.2 (hap.imp_of_mem fun {p q} hp' hq' hne e => hne ?_)
    obtain ⟨a, ha, _⟩ := hk p hp'
    obtain ⟨c, hc, _⟩ := hk q hq'
    rw [ha, hc] at e ⊢
    exact congrArg _ e
  · show k ∈ (es.map fun p => Go.intOf p.1) ↔ _
    have h1 := h.2 k
    rw [has_eq] at h1
    rw [List.mem_map]
    constructor
    · rintro ⟨p, hp, rfl⟩
      obtain ⟨a, ha, _⟩ := hk p hp
      have h3 : (es.any fun q => q.1.sameKey (.int .i64 (Go.intOf p.1))) = true := List.any_eq_true.2 ⟨p, hp, by rw [ha]; exact WideAt.sameKey_self (show WideAt.IsKeyLit (.int .i64 a) from trivial)⟩
      rw [h3] at h1
      exact of_decide_eq_true h1.symm
    · intro h0
      rw [decide_eq_true h0] at h1
      obtain ⟨p, hp, hs⟩ := List.any_eq_true.1 h1
      exact ⟨p, hp, by rw [WideAt.sameKey_eq hs]; rfl⟩
  · obtain ⟨p, hp, rfl⟩ := List.mem_map.1 hm
    obtain ⟨a, ha, hI⟩ := hk p hp
    rw [ha]; exact hI
end Go.Proofs.YtkdamaomhppkgaaGreat.Pp
/- The walks of layer 25: the closures of the favorites. -/
namespace Go.Proofs.YtkdamaomhppkgaaGreat.Pp
open Go.RowKit Go.Maps

/-- The first that is not nought. -/
def Po.orr : List Int → Int
  | [] => 0
  | x :: xs => if x = 0 then Po.orr xs else x

set_option maxHeartbeats 2000000 in
theorem or_any (A : Option Addr) (c : Nat) (xs : List Int) (w : World) (hx : Ints w A c xs) (hn : xs.length ≤ 1000000) :
    Calls Tryz.prog 48 #[.slice A xs.length c] w fun e w' => e = .returned (.int .i64 (Po.orr xs)) ∧ w = w' := by
  have HX := Lib.hid hx
  clear hx
  go_enter Tryz.func48, Tryz.ntmps48
  go_wp2_with fail
  go_loop [8] (fun u => ∃ i : Nat, i ≤ xs.length ∧ u = .int .i64 i ∧ Po.orr xs = Po.orr (xs.drop i)) (fun u => xs.length - (Go.Proofs.intOf u).toNat)
  case atStart => exact ⟨0, Nat.zero_le _, rfl, rfl⟩
  case round =>
    obtain ⟨i, hil, rfl, hor⟩ := hrel
    by_cases h1 : i < xs.length
    · obtain ⟨g, o, x, rfl, hg, hxi, hcell⟩ := HX.out.at_ h1
      rw [drop_at hxi] at hor
      by_cases hx0 : x = 0
      · have q : (x != 0) = false := by simp [hx0]
        have hs := Lib.hid (hor.trans (if_pos hx0))
        clear hxi hor hx0
        go_wp2
        go_round
        case rel => exact ⟨i + 1, by omega, by go_num, hs.out⟩
        case measure => simp [Go.Proofs.intOf]; omega
      · have q : (x != 0) = true := by simp [hx0]
        have hs := Lib.hid (hor.trans (if_neg hx0))
        clear hxi hor hx0
        go_wp2
        go_ret
        exact ⟨by rw [hs.out]; rfl, rfl⟩
    · rw [List.drop_of_length_le (by omega)] at hor
      have hs := Lib.hid hor
      clear hor
      go_wp2
      go_ret
      exact ⟨by rw [hs.out]; rfl, rfl⟩

set_option maxHeartbeats 1000000 in
theorem del1_any (W : World) (key val : Value) (kl : Lit) (yd : DataW Unit) (yp : List MemPlace) (_hk : keyOf Tryz.prog 3 key = some kl) (hv : RI val = some (yd, yp)) :
    Calls Tryz.prog 103 #[key, val] W fun e w' => e = .returned (.bool (under2 kl yd)) ∧ W.grownBy w' none := by
  obtain ⟨a, rfl, hz, _⟩ := plainElem_int_inv Tryz.underlying3 hv
  injection hz with hz1 _
  subst hz1
  go_enter Tryz.func103, Tryz.ntmps103
  go_wp2
  go_ret
  exact ⟨rfl, World.grownBy.refl _ _⟩

/-- What the favorites are sorted by. -/
def Po.cf (f : Int → Int) (a b : Int) : Int := Po.orr [Lib.compareInt (f b) (f a), Lib.compareInt a b]

set_option maxHeartbeats 4000000 in
theorem cmp2_any (D : DataW Unit) (f : Int → Int) (b n B : Nat) (W : World) (x y : Int) (hO : OMap W b n D) (hM : MapIs D f) (hc : W.cell? ⟨B, 0, none⟩ = some (.map (some b))) (hx : I64 x) (hy : I64 y) :
    Calls Tryz.prog 106 #[.int .i64 x, .int .i64 y, .pointer (some ⟨B, 0, none⟩)] W fun e w' => e = .returned (.int .i64 (Po.cf f x y)) ∧ ∃ o, w' = W.alloc o := by
  have hl1 := look_run hO hM hx
  have hl2 := look_run hO hM hy
  have HC1 := Lib.hid (Tryz.cmp_Compare_int (f y) (f x) W)
  have HC2 := Lib.hid (Tryz.cmp_Compare_int x y W)
  generalize hr : Po.cf f x y = r
  unfold Po.cf at hr
  generalize Lib.compareInt (f y) (f x) = p at *
  generalize Lib.compareInt x y = q at *
  have HR := Lib.hid hr
  clear hO hM hr hx hy
  go_enter Tryz.func106, Tryz.ntmps106
  go_wp2_with fail
  refine HC1.out.mono ?_
  rintro e w' ⟨rfl, rfl⟩
  go_wp2_with fail
  refine HC2.out.mono ?_
  rintro e w' ⟨rfl, rfl⟩
  go_wp2_with fail
  have hor := or_any (some ⟨w'.heap.size, 0, none⟩) 2 [p, q] (w'.alloc (.cells #[.int .i64 p, .int .i64 q] 3)) ⟨by simp, fun _ => ⟨w'.heap.size, 0, rfl, by simp, fun j v hv => by
    match j, hv with
    | 0, hv => simp at hv; subst hv; simp
    | 1, hv => simp at hv; subst hv; simp
    | j + 2, hv => simp at hv⟩⟩ (by simp)
  change Calls _ _ #[.slice (some ⟨w'.heap.size, 0, none⟩) 2 2] _ _ at hor
  refine hor.mono ?_
  rintro e w1 ⟨rfl, rfl⟩
  go_wp2
  go_ret
  exact ⟨by rw [← HR.out]; rfl, _, rfl⟩
end Go.Proofs.YtkdamaomhppkgaaGreat.Pp
/- The walk of layer 25: the keys of a map, collected and sorted by a closure. -/
namespace Go.Proofs.YtkdamaomhppkgaaGreat.Pp
open Go.RowKit Go.Maps

abbrev encX (x : Int) : Value := .int .i64 (nx x)
theorem sort_block {w : World} {blk off n : Nat} {d : Array Int} {os : Array Obj} {k : Nat} (h1 : k ≠ blk) (h2 : k < w.heap.size) : (sortWorld encX w blk off n d os).heap[k]? = w.heap[k]? := by
  unfold sortWorld
  rw [Sort.heap_grow_old _ _ (by simpa using h2)]
  simp [Sort.putRow, Sort.mapBlock, Sort.ahead, Array.getElem?_modify, Ne.symm h1]
theorem sort_grown (w : World) (blk off n : Nat) (d : Array Int) (os : Array Obj) : w.grownBy (sortWorld encX w blk off n d os) (some blk) :=
  ⟨rfl, rfl, rfl, by unfold sortWorld; simp, fun _ hk hne => sort_block (fun e => hne (by rw [e])) hk⟩

theorem cf_lt (f : Int → Int) (a b : Int) : Po.cf f a b < 0 ↔ f b < f a ∨ (f a = f b ∧ a < b) := by
  unfold Po.cf Lib.compareInt
  simp only [Po.orr]
  by_cases h1 : f b < f a
  · simp [h1]
  · by_cases h2 : f a < f b
    · simp [h1, h2]; omega
    · have e : f a = f b := by omega
      by_cases h3 : a < b
      · simp [e, h3]
      · by_cases h4 : b < a
        · simp [e, h3, h4]
        · simp [e, h3, h4]
def cfX (f : Int → Int) (x y : Int) : Int := Po.cf f (nx x) (nx y)
theorem ltX (f : Int → Int) (x y : Int) : ltOf (cfX f) x y = decide (f (nx y) < f (nx x) ∨ (f (nx x) = f (nx y) ∧ nx x < nx y)) := by
  unfold ltOf cfX
  exact decide_eq_decide.2 (cf_lt f _ _)
theorem swoX (f : Int → Int) : Sort.SWO (ltOf (cfX f)) where
  irrefl x := by rw [ltX]; simp
  trans x y z h1 h2 := by rw [ltX, decide_eq_true_eq] at *; omega
  ntrans x y z h1 h2 := by rw [ltX, decide_eq_false_iff_not] at *; omega

theorem cmpLays (D : DataW Unit) (f : Int → Int) (b n B blk off size : Nat) (w : World) (hO : OMap w b n D) (hM : MapIs D f) (hc : w.cell? ⟨B, 0, none⟩ = some (.map (some b))) (hB : B < w.heap.size) (h1 : B ≠ blk) (h2 : b ≠ blk) :
    CmpLays1 Tryz.prog 106 #[.pointer (some ⟨B, 0, none⟩)] encX (cfX f) blk off size w := fun m os dk _ x y => by
  refine (cmp2_any D f b n B _ (nx x) (nx y) (hO.kept (sort_grown w blk off m dk os) (by simp [h2])) hM ((World.cell?_of_block (sort_block h1 hB)).trans hc) (nx_in x) (nx_in y)).mono ?_
  rintro e w' ⟨rfl, o, rfl⟩
  exact ⟨rfl, 0, #[o], Sort.alloc_eq_grow _ _⟩

theorem ihold {w : World} {g : Nat} {cur : Array Value} {e : TypeId} {ss : List Int} (hb : w.heap[g]? = some (.cells cur e (0, 0))) (ht : cur.toList.take ss.length = ic ss) (hI : ∀ x ∈ ss, I64 x) : Sort.Holds encX w g 0 ss.toArray := by
  intro j hj
  have hj' : j < ss.length := by simpa using hj
  refine ⟨?_, by simp [World.frozen?, hb]⟩
  have h1 : (cur.toList.take ss.length)[j]? = (ic ss)[j]? := by rw [ht]
  rw [List.getElem?_take_of_lt hj'] at h1
  simp only [World.cell?, hb, Nat.zero_add]
  simp only [Option.isSome_none, Bool.false_eq_true, if_false]
  rw [← Array.getElem?_toList, h1]
  have h2 : nx ss[j] = ss[j] := nx_same (hI _ (List.getElem_mem hj'))
  simp [hj', ic, h2]
theorem isorted {w : World} {base g cap n : Nat} {os : Array Obj} {cur : Array Value} {ss : List Int} {d : Array Int} (hl : d.size = ss.length) (hI : ∀ x ∈ d.toList, I64 x) (hbase : base ≤ g) (hb : w.heap[g]? = some (.cells cur 3 (0, 0)))
    (h1 : ss.length ≤ cap) (h2 : cap ≤ maxLen) (h3 : cur.size = cap * 1) : IRow (sortWorld encX w g 0 n d os) base (.slice (some ⟨g, 0, none⟩) ss.length cap) d.toList := by
  have hg : g < w.heap.size := (Array.getElem?_eq_some_iff.1 hb).1
  have hblk : (sortWorld encX w g 0 n d os).heap[g]? = some (.cells (Sort.putCells encX 0 d cur) 3 (0, 0)) := by
    unfold sortWorld
    rw [Sort.heap_grow_old _ _ (by simpa using hg)]
    simp [Sort.putRow, Sort.mapBlock, Sort.ahead, Array.getElem?_modify, hb, Sort.onCells]
  have e : d.toList.length = ss.length := by simpa using hl
  unfold IRow
  rw [e]
  refine ⟨by simp [ic_length, hl], .inr ⟨g, cap, _, rfl, hbase, hblk, h1, h2, by simp [Sort.putCells, h3], ?_⟩⟩
  rw [Nat.mul_one]
  apply List.ext_getElem?
  intro j
  by_cases hj : j < ss.length
  · have hj2 : j < d.size := by omega
    have hx : nx d[j] = d[j] := nx_same (hI _ (by simp))
    rw [List.getElem?_take_of_lt hj, Array.getElem?_toList]
    simp [Sort.putCells, ic, hj2, show j < cur.size by omega, hx]
  · rw [List.getElem?_take_eq_none (by omega), List.getElem?_eq_none (by simp [ic_length]; omega)]

/-- The order of the favorites by a number f: more, or as many and less. -/
def befF (f : Int → Int) (a b : Int) : Prop := f b < f a ∨ (f a = f b ∧ a < b)
theorem sorted_pairwise (f : Int → Int) (d : Array Int) (hnd : d.toList.Nodup) (hI : ∀ x ∈ d.toList, I64 x) (hs : Sort.SortedIn (ltOf (cfX f)) 0 d.size d) : d.toList.Pairwise (befF f) := by
  rw [List.pairwise_iff_getElem]
  intro i j hi hj hij
  have hi' : i < d.size := by simpa using hi
  have hj' : j < d.size := by simpa using hj
  have h := hs i j (Nat.zero_le _) hij hj'
  have e1 : d[i]! = d.toList[i] := by simp [hi']
  have e2 : d[j]! = d.toList[j] := by simp [hj']
  rw [ltX, e1, e2, nx_same (hI _ (List.getElem_mem hi)), nx_same (hI _ (List.getElem_mem hj)), decide_eq_false_iff_not] at h
  have hne : d.toList[i] ≠ d.toList[j] := (List.pairwise_iff_getElem.1 hnd) i j hi hj hij
  unfold befF
  omega

set_option maxHeartbeats 4000000 in
theorem sorted_any (D : DataW Unit) (f : Int → Int) (b n B Bm : Nat) (w : World) (hO : OMap w b n D) (hM : MapIs D f) (hc : w.cell? ⟨B, 0, none⟩ = some (.map (some b))) (hB : B < w.heap.size) (hcm : w.cell? ⟨Bm, 0, none⟩ = some (.map (some b))) (hBm : Bm < w.heap.size) (hD : Maps.size D ≤ 1000000) :
    Calls Tryz.prog 104 #[.func (.func 118) #[] #[.pointer (some ⟨Bm, 0, none⟩)], .func (.func 106) #[] #[.pointer (some ⟨B, 0, none⟩)]] w fun e w' => ∃ v S, e = .returned v ∧ IRow w' w.heap.size v S ∧ (∀ x, x ∈ S ↔ f x ≠ 0) ∧ S.Pairwise (befF f) ∧ Below w.heap.size w w' := by
  obtain ⟨hnd, hmem, hI, hlen⟩ := hM.keys hO
  have hseq : SeqGives Fence.wide 2 Tryz.prog 118 #[.pointer (some ⟨Bm, 0, none⟩)] encZ (fun ss => ss.Perm (intKeys D)) (Maps.size D) w :=
    AnyZI.keys_gives (ρ := Tryz.keysA_ren) { Tryz.keysA with } Fence.wide _ trivial rfl (by omega) Bm b n D w hBm hcm hO
  have hcol := callsIn_wide.1 (AnyZI.collect_in Tryz.collectA Fence.wide 4 trivial trivial rfl (by omega) 118 #[.pointer (some ⟨Bm, 0, none⟩)] trivial (enters_of Tryz.func118 (by kernel_rfl) rfl) _ _ (by unfold maxLen; omega) (by omega) w hseq)
  change Calls _ 116 _ _ _ at hcol
  have HC := Lib.hid hcol
  have hbl := hO.lt
  have HO := Lib.hid hO
  have HCB := Lib.hid hc
  have HI := Lib.hid hI
  have HND := Lib.hid hnd
  have HMEM := Lib.hid hmem
  clear hcol hseq hO hc hcm hI hnd hmem
  go_enter Tryz.func104, Tryz.ntmps104
  go_wp2_with fail
  refine HC.out.mono ?_
  rintro e w1 ⟨v, ss, rfl, hS, hrow, hnil, hb⟩
  have hSI : ∀ x ∈ ss, I64 x := fun x hx => HI.out x (hS.mem_iff.1 hx)
  have hSM : ∀ x, x ∈ ss ↔ f x ≠ 0 := fun x => (hS.mem_iff).trans (HMEM.out x)
  have hSN : ss.Nodup := hS.nodup_iff.2 HND.out
  have hSL : ss.length ≤ 1000000 := by rw [hS.length_eq, hlen]; exact hD
  have HB := Lib.hid hb
  clear HC
  by_cases h0 : ss = []
  · subst h0
    have hv := hnil.2 rfl
    subst hv
    have HM0 := Lib.hid hSM
    clear hSI hSM hSN hrow hnil hb hS
    have hsn := AnyF.slices_SortFunc_none { Tryz.sortA with } none 0 (.func (.func 106) #[] #[.pointer (some ⟨B, 0, none⟩)]) w1
    change Calls _ 117 _ _ _ at hsn
    go_wp2_with fail
    refine hsn.mono ?_
    rintro e w' ⟨rfl, rfl⟩
    clear hsn
    go_wp2
    go_ret
    exact ⟨_, [], rfl, IRow.nil _ _, HM0.out, List.Pairwise.nil, HB.out⟩
  · rcases hrow.2 with ⟨_, hn⟩ | ⟨g, cap, cur, rfl, hbase, hb1, h1, h2, h3, h4⟩
    · exact absurd (List.eq_nil_of_length_eq_zero hn) h0
    · have hg : g < w1.heap.size := (Array.getElem?_eq_some_iff.1 hb1).1
      have hO1 := HO.out.keep hb
      have hc1 : w1.cell? ⟨B, 0, none⟩ = some (.map (some b)) := (hb.cell (p := ⟨B, 0, none⟩) hB).trans HCB.out
      have hB1 : B < w1.heap.size := Nat.lt_of_lt_of_le hB hb.size
      have hsrt := Any.slices_SortFunc Tryz.sortA encX (fun _ => rfl) (cfX f) (swoX f) 106 #[.pointer (some ⟨B, 0, none⟩)] g 0 cap ss.toArray w1 (enters_of Tryz.func106 (by kernel_rfl) rfl)
        (cmpLays D f b n B g 0 _ w1 hO1 hM hc1 hB1 (by omega) (by omega)) (ihold hb1 (by rw [Nat.mul_one] at h4; exact h4) hSI) hg (by simp; omega)
      have esz : ss.toArray.size = ss.length := by simp
      rw [esz] at hsrt
      change Calls _ 117 _ _ _ at hsrt
      have HS := Lib.hid hsrt
      have HSI := Lib.hid hSI
      have HSM := Lib.hid hSM
      have HSN := Lib.hid hSN
      have HB1 := Lib.hid hb1
      have H4 := Lib.hid h3
      clear hsrt hSI hSM hSN hb1 hS hrow hnil hb hO1 hc1 h0 h3 h4
      go_wp2_with fail
      refine HS.out.mono ?_
      rintro e w' ⟨rfl, d', m, os, hp, hs, rfl⟩
      have hd1 : d'.size = ss.length := by rw [hp.1]; simp
      have hperm : d'.toList.Perm ss := by
        have := hp.2.2
        have e1 : d'.extract 0 ss.length = d' := by rw [← hd1]; simp
        have e2 : ss.toArray.extract 0 ss.length = ss.toArray := by rw [← esz]; exact Array.extract_size
        rw [e1, e2] at this
        exact this
      have hI2 : ∀ x ∈ d'.toList, I64 x := fun x hx => HSI.out x (hperm.mem_iff.1 hx)
      rw [← hd1] at hs
      have hpw := Lib.hid (sorted_pairwise f d' (hperm.nodup_iff.2 HSN.out) hI2 hs)
      have hrow2 := Lib.hid (isorted (n := m) (os := os) hd1 hI2 hbase HB1.out h1 h2 H4.out)
      have hmm := Lib.hid (fun x => (hperm.mem_iff (a := x)).trans (HSM.out x))
      have HB2 := Lib.hid (HB.out.grown (sort_grown w1 g 0 m d' os) HB.out.size (fun j hj => by cases hj; exact hbase))
      clear hp hs hperm hI2 HS
      go_wp2
      go_ret
      exact ⟨_, _, rfl, hrow2.out, hmm.out, hpw.out, HB2.out⟩
end Go.Proofs.YtkdamaomhppkgaaGreat.Pp
/- The walk of layer 25's reference: joining. -/
namespace Go.Proofs.YtkdamaomhppkgaaGreat.Pp
open Go.RowKit Go.Maps

theorem joinRes_err {fs ts rs : List Int} {w w' : World} {e : Ending} {v : Int} (h : Po.err fs ts rs = v) (hv : v ≠ 0) (he : e = .returned (.tuple #[.slice none 0 0, .int .i64 v])) (hB : Below w.heap.size w w') : JoinRes fs ts rs w e w' :=
  ⟨none, 0, by rw [he, h, show Po.out fs ts rs = [] from if_neg (by rw [h]; exact hv)]; rfl, ⟨by rw [show Po.out fs ts rs = [] from if_neg (by rw [h]; exact hv)]; exact Ints.nil _ _ _, fun g o e => by cases e⟩, hB⟩

end Go.Proofs.YtkdamaomhppkgaaGreat.Pp
/- The walk of layer 25's reference: the favorites. -/
namespace Go.Proofs.YtkdamaomhppkgaaGreat.Pp
open Go.RowKit Go.Maps

/-- What the call comes to. -/
def FavRes (l : List Int) (most : Int) (w : World) (e : Ending) (w' : World) : Prop :=
  ∃ A c, e = .returned (.slice A (Po.favs l most.toNat).length c) ∧ Ints w' A c (Po.favs l most.toNat) ∧ Below w.heap.size w w'

end Go.Proofs.YtkdamaomhppkgaaGreat.Pp
/- The walk of layer 25: the favorites. -/
namespace Go.Proofs.YtkdamaomhppkgaaGreat.Pp
open Go.RowKit Go.Maps

theorem _root_.Go.Proofs.YtkdamaomhppkgaaGreat.Ints.take {w : World} {A : Option Addr} {c : Nat} {xs : List Int} (h : Ints w A c xs) (k : Nat) : Ints w A c (xs.take k) := by
  refine ⟨Nat.le_trans (by rw [List.length_take]; omega) h.1, fun hp => ?_⟩
  obtain ⟨g, o, e, hg, hc⟩ := h.2 (by rw [List.length_take] at hp; omega)
  refine ⟨g, o, e, hg, fun j x hx => hc j x ?_⟩
  have hjk : j < k := by
    obtain ⟨h1, _⟩ := List.getElem?_eq_some_iff.1 hx
    rw [List.length_take] at h1; omega
  rwa [List.getElem?_take_of_lt hjk] at hx
/-- The numbers that come twice, by their number. -/
def Po.f2 (l : List Int) (k : Int) : Int := if ((l.count k : Nat) : Int) < 2 then 0 else ((l.count k : Nat) : Int)
theorem is_of {l S : List Int} (h1 : ∀ x, x ∈ S ↔ Po.f2 l x ≠ 0) (h2 : S.Pairwise (befF (Po.f2 l))) : Po.Is l S := by
  have hf : ∀ x, x ∈ S → 2 ≤ l.count x ∧ Po.f2 l x = ((l.count x : Nat) : Int) := fun x hx => by
    have := (h1 x).1 hx
    unfold Po.f2 at this ⊢
    split
    · rename_i h; rw [if_pos h] at this; exact absurd rfl this
    · omega
  refine ⟨h2.imp_of_mem (fun {a b} ha hb h => ?_), fun v => ⟨fun hv => (hf v hv).1, fun hv => (h1 v).2 ?_⟩⟩
  · unfold befF at h
    rw [(hf a ha).2, (hf b hb).2] at h
    unfold Po.bef
    omega
  · unfold Po.f2
    rw [if_neg (by omega)]; omega
theorem size_struck {w : World} {b n : Nat} {D : DataW Unit} (hO : OMap w b n D) : Maps.size (Lib.deleteFuncD under2 D) ≤ Maps.size D := by
  obtain ⟨es, rfl, _, _⟩ := hO.entries lawI
  exact List.length_filter_le _ _

set_option maxHeartbeats 8000000 in
set_option maxRecDepth 100000 in
theorem fav_any (A : Option Addr) (c : Nat) (l : List Int) (most : Int) (w : World) (hx : Ints w A c l) (hI : ∀ x ∈ l, I64 x) (_hm : I64 most) (hn : l.length ≤ 100000) :
    Calls Tryz.prog 78 #[.slice A l.length c, .int .i64 most] w (FavRes l most w) := by
  have hmm := @run_makeMap Tryz.prog
  have HX := Lib.hid hx
  have HI := Lib.hid hI
  clear hx hI
  go_enter Tryz.func78, Tryz.ntmps78
  go_wp2_with fail
  go_loopw [12] (fun u wr => ∃ (i : Nat) (D : DataW Unit), i ≤ l.length ∧ u = .int .i64 i ∧ OMap wr w.heap.size i D ∧ MapIs D (fun k => ((l.take i).count k : Nat)) ∧ Maps.size D ≤ i ∧ wr.cell? ⟨w.heap.size + 1, 0, none⟩ = some (.map (some w.heap.size)) ∧ w.heap.size + 1 < wr.heap.size ∧ Below w.heap.size w wr) (fun u _ => l.length - (Go.RowKit.intOf u).toNat)
  case atStart => exact ⟨0, .map [], Nat.zero_le _, rfl, (World.ownsMap_made _ _ _ _).alloc _, MapIs.empty.same (fun x => rfl), Nat.le_refl _, by simp, by simp, ((Below.refl _ _).alloc (Nat.le_refl _) _).alloc (by simp) _⟩
  case round =>
    obtain ⟨i, D, hil, rfl, hown, hmap, hsz, hbox, hbl, hB⟩ := hrel
    have HB := Lib.hid hB
    have HO := Lib.hid hown
    have HM := Lib.hid hmap
    by_cases h1 : i < l.length
    · obtain ⟨g, o, x, rfl, hg, hxi, hcell⟩ := (HX.out.grow hB).at_ h1
      have hIx := HI.out x (List.mem_of_getElem? hxi)
      have hlook := look_run hown hmap hIx
      have htk := Lib.hid (take_snocI l i x hxi)
      have HIx := Lib.hid hIx
      have hcl : (l.take i).count x ≤ 1000000 := Nat.le_trans List.count_le_length (by rw [List.length_take]; omega)
      have hnew := Lib.hid (show ∀ k, (if k = x then (((l.take i).count x : Nat) : Int) + 1 else (((l.take i).count k : Nat) : Int)) = (((l.take (i + 1)).count k : Nat) : Int) from fun k => by
        rw [htk.out, count_snoc]
        by_cases e : k = x
        · subst e; rw [if_pos rfl, if_pos rfl]; omega
        · rw [if_neg e, if_neg (fun h => e h.symm)]; rfl)
      have hsp := size_put (HO.out.tidy lawI) (k := .int .i64 x) (.lit (.int .i64 (((l.take i).count x : Nat) + 1 : Int)))
      have HSP := Lib.hid hsp
      have HBX := Lib.hid hbox
      clear hB hown hmap hxi hIx hsp
      go_wp2_with (first | (at_mapUpdate; refine wpList_mapUpdate_own _ rfl _ _ _ 146 rfl 3 3 lawI Tryz.underlying146 _ w.heap.size i _ rfl HO.out (by unfold maxLen; omega) _ _ _ rfl rfl (keyI HIx.out) (.lit (.int .i64 (((l.take i).count x : Nat) + 1 : Int))) [] (plainElem_int Tryz.underlying3 (WalkArith.wf_i64 (by omega))) ?_; intro w1 hown1 hgrow1) | go_in)
      have hO1 := Lib.hid hown1
      have hB1 := Lib.hid (HB.out.grown hgrow1 HB.out.size (fun j hj => by cases hj; exact Nat.le_refl _))
      have hbox1 := Lib.hid ((World.cell?_of_block (a := ⟨w.heap.size + 1, 0, none⟩) (hgrow1.block (w.heap.size + 1) hbl (by simp))).trans HBX.out)
      have hbl1 := Nat.lt_of_lt_of_le hbl hgrow1.size
      clear hown1 hgrow1 hlook
      go_wp2
      go_roundw
      case rel =>
        refine ⟨i + 1, _, by omega, by go_num, hO1.out, (HM.out.put HO.out.isMap x _ (by omega)).same hnew.out, ?_, hbox1.out, hbl1, hB1.out⟩
        rw [HSP.out]
        split <;> omega
      case measure => simp [Go.RowKit.intOf]; omega
    · have hfin : l.take i = l := List.take_of_length_le (by omega)
      obtain rfl : i = l.length := by omega
      rw [hfin] at hmap
      have HM1 := Lib.hid (hmap.struck hown)
      have hs2 := size_struck hown
      have HBX := Lib.hid hbox
      have hdl := AnyDf.maps_DeleteFunc Tryz.delA lawI RI under2 103 #[] w.heap.size l.length D wr (enters_of Tryz.func103 (by kernel_rfl) rfl) hown (fun W key val kl yd yp _ hk hv => del1_any W key val kl yd yp hk hv)
      change Calls _ 102 _ _ _ at hdl
      have HDL := Lib.hid hdl
      clear hmap hfin hown hB hdl
      go_wp2_with fail
      refine HDL.out.mono ?_
      rintro e w1 ⟨rfl, hO1, hg1⟩
      have hbox1 := (World.cell?_of_block (a := ⟨w.heap.size + 1, 0, none⟩) (hg1.block (w.heap.size + 1) hbl (by simp))).trans HBX.out
      have hbl1 := Nat.lt_of_lt_of_le hbl hg1.size
      have HB1 := Lib.hid (HB.out.grown hg1 HB.out.size (fun j hj => by cases hj; exact Nat.le_refl _))
      have HO1 := Lib.hid (show OMap w1 w.heap.size l.length (Lib.deleteFuncD under2 D) from hO1)
      have hky := callsIn_wide.1 (AnyZI.keys_in Tryz.keysA Fence.wide 4 trivial rfl (some w.heap.size) w1)
      change Calls _ 105 _ _ (fun e w' => e = .returned (.func (.func 118) #[] #[.pointer (some ⟨w1.heap.size, 0, none⟩)]) ∧ w' = w1.alloc (.cells #[.map (some w.heap.size)] 146)) at hky
      have HK := Lib.hid hky
      clear hO1 hg1 HDL hky
      go_wp2_with fail
      refine HK.out.mono ?_
      rintro e w2 ⟨rfl, rfl⟩
      have hb2 : Below w1.heap.size w1 (w1.alloc (.cells #[.map (some w.heap.size)] 146)) := (Below.refl _ _).alloc (Nat.le_refl _) _
      have HST := Lib.hid (sorted_any _ (Po.f2 l) w.heap.size l.length (w.heap.size + 1) w1.heap.size (w1.alloc (.cells #[.map (some w.heap.size)] 146)) (OMap.keep HO1.out hb2) HM1.out ((hb2.cell (p := ⟨w.heap.size + 1, 0, none⟩) hbl1).trans hbox1) (by simp; omega) (by simp) (by simp) (by omega))
      have HB2 := Lib.hid (Below.after' HB1.out hb2 (Nat.le_refl _))
      have hz2 : w.heap.size ≤ (w1.alloc (.cells #[.map (some w.heap.size)] 146)).heap.size := HB2.out.size
      clear hb2 HK
      generalize w1.alloc (.cells #[.map (some w.heap.size)] 146) = w2 at *
      go_wp2_with fail
      refine HST.out.mono ?_
      rintro e w3 ⟨v, S, rfl, hrow, hmem, hpw, hb3⟩
      have hIs := is_of hmem hpw
      have HFT := Lib.hid (Po.favs_take hIs most.toNat)
      have hSl : S.length ≤ 100000 := Nat.le_trans (length_le_sub S l (hpw.imp (fun {a b} h e => by subst e; unfold befF at h; omega)) (fun v hv => List.count_pos_iff.1 (by have := (hIs.2 v).1 hv; omega))) hn
      obtain ⟨A2, c2, rfl, hrd⟩ := hrow.reads
      have HR := Lib.hid hrd
      have HB3 := Lib.hid (Below.after' HB2.out hb3 (Nat.le_refl _))
      have hcap := hrd.1
      clear hrow hrd hb3 HST hIs hmem hpw
      go_wp2_with fail
      go_ret
      refine ⟨A2, c2, ?_, by rw [HFT.out]; exact HR.out.take _, HB3.out⟩
      have elen : (max (min most (S.length : Int)) 0).toNat = (Po.favs l most.toNat).length := by rw [HFT.out, List.length_take]; omega
      rw [← elen]
      rfl
end Go.Proofs.YtkdamaomhppkgaaGreat.Pp
/- The walk of layer 26: a row by its favorites. -/
namespace Go.Proofs.YtkdamaomhppkgaaGreat
open Go.RowKit Pp

/-- Rows in their shortest codings, one behind the other. -/
def joinS : List (List Int) → Option (List UInt8)
  | [] => some []
  | x :: xs => match short x with
    | none => none
    | some s => preB s (joinS xs)
theorem joinS_none {x : List Int} (xs : List (List Int)) (h : short x = none) : joinS (x :: xs) = none := by unfold joinS; rw [h]
theorem joinS_some {x : List Int} {s : List UInt8} (xs : List (List Int)) (h : short x = some s) : joinS (x :: xs) = preB s (joinS xs) := by conv => lhs; unfold joinS; rw [h]
theorem fav_none {l : List Int} {many : Nat} (h : Po.favs l many = []) : fav l many = none := if_pos h
theorem fav_join {l : List Int} {many : Nat} (h : Po.favs l many ≠ []) : fav l many = preB [255, UInt8.ofNat (Po.favs l many).length] (joinS [Po.favs l many, Po.tokens (Po.favs l many) l, Po.left (Po.favs l many) l]) := by
  unfold fav
  rw [if_neg h]
  cases h1 : short (Po.favs l many) with
  | none => rw [joinS_none _ h1]; rfl
  | some a =>
    rw [joinS_some _ h1]
    dsimp only
    cases h2 : short (Po.tokens (Po.favs l many) l) with
    | none => rw [joinS_none _ h2]; rfl
    | some b =>
      rw [joinS_some _ h2]
      dsimp only
      cases h3 : short (Po.left (Po.favs l many) l) with
      | none => rw [joinS_none _ h3]; rfl
      | some c =>
        rw [joinS_some _ h3]
        simp [joinS, preB]
theorem freshB2 {x : World} {B base : Nat} {y z : Int} (h : x.heap[B]? = some (.cells #[.int .u8 y, .int .u8 z] 5 (0, 0))) (hb : base ≤ B) (a b : UInt8) (ha : y = (a.toNat : Int)) (hb2 : z = (b.toNat : Int)) : BRow x base 5 (.slice (some ⟨B, 0, none⟩) 2 2) [a, b] := by
  subst ha hb2
  exact ⟨rfl, .inr ⟨B, 2, _, rfl, hb, h, Nat.le_refl _, by unfold maxLen; omega, rfl, rfl⟩⟩
theorem tokens_i64 (fs l : List Int) (h : fs.length ≤ 1000000) : ∀ v ∈ Po.tokens fs l, I64 v := fun v hv => by
  unfold Po.tokens at hv
  obtain ⟨x, _, rfl⟩ := List.mem_map.1 hv
  have := Po.at_le fs x
  unfold I64
  omega
theorem short_len {l : List Int} {s : List UInt8} (h : short l = some s) : s.length ≤ 5 * l.length + 1 ∧ 0 < s.length := by
  have hs := shortTo_is l 15
  rw [show shortTo l 15 = some s from h] at hs
  obtain ⟨⟨i, c, b, _, h2, h3, rfl⟩, _⟩ := hs
  have := row_lenB c (cods_ok c (List.mem_of_getElem? h2)) l 0 b h3
  simp only [List.length_cons]
  omega
theorem hop_grown {W0 w w1 : World} {B : Nat} {v v' : Value} (h : W0.grownBy w (some B)) (hp : Hop w w1 v.ownBlock v'.ownBlock) (ho : v.ownBlock = some B ∨ ∀ g, v.ownBlock = some g → W0.heap.size ≤ g) :
    W0.grownBy w1 (some B) ∧ (v'.ownBlock = some B ∨ ∀ g, v'.ownBlock = some g → W0.heap.size ≤ g) := by
  refine ⟨grownBy_trans h hp.1 ho, ?_⟩
  rcases hp.2 with e | ⟨g, hg, e⟩
  · rw [e]; exact ho
  · refine .inr fun k hk => ?_
    rw [e] at hk
    cases hk
    exact Nat.le_trans h.size hg
set_option maxHeartbeats 8000000 in
set_option maxRecDepth 100000 in
theorem favored_any (A : Option Addr) (cc : Nat) (l : List Int) (w : World) (hx : Ints w A cc l) (hI : ∀ v ∈ l, I64 v) (hl : l.length ≤ 100000) (many : Nat) (hm : many ≤ 15) :
    Calls Tryz.prog 57 #[.slice A l.length cc, .int .i64 many] w fun ex y => ∃ v, ex = .returned v ∧ BestIs y w.heap.size v (fav l many) ∧ Below w.heap.size w y := by
  have HX := Lib.hid hx
  have HI := Lib.hid hI
  have HF := Lib.hid (fav_any A cc l (many : Int) w hx hI (by unfold I64; omega) hl)
  unfold FavRes at HF
  rw [Int.toNat_natCast] at HF
  have hfl := favs_bound l many hm
  have hfm := (Po.favs_facts l many).2
  have hfn := Lib.hid (fun h => fav_none (l := l) (many := many) h)
  have hfj := Lib.hid (fun h => fav_join (l := l) (many := many) h)
  have HFI := Lib.hid (show ∀ v ∈ Po.favs l many, I64 v from fun v hv => hI v (by
    have := hfm v hv
    exact List.count_pos_iff.1 (by omega)))
  clear hx hI hfm
  generalize Po.favs l many = fs at *
  generalize fav l many = fo at *
  go_enter Tryz.func57, Tryz.ntmps57
  go_wp2_with fail
  refine HF.out.mono ?_
  rintro ex y ⟨A1, c1, rfl, hi1, hb1⟩
  have HI1 := Lib.hid hi1
  have HB1 := Lib.hid hb1
  clear hb1 HF
  by_cases h0 : fs = []
  · have q : ((fs.length : Int) == 0) = true := by rw [h0]; rfl
    have hfin := Lib.hid (hfn.out h0)
    clear h0 hi1
    go_wp2_with fail
    go_ret
    exact ⟨_, rfl, by rw [hfin.out]; rfl, HB1.out⟩
  · have hpos : 1 ≤ fs.length := List.length_pos_iff.2 h0
    have q : ((fs.length : Int) == 0) = false := by simp; omega
    have hfin := Lib.hid (hfj.out h0)
    clear h0 hi1
    go_wp2_with fail
    have HG1 := Lib.hid (show ∀ g o, A1 = some ⟨g, o, none⟩ → some g ≠ some y.heap.size from fun g o e e2 => by
      obtain ⟨g', o', e', hg, _⟩ := HI1.out.2 (by omega)
      rw [e] at e'
      injection e' with e'
      injection e' with e'
      injection e2 with e2
      omega)
    have k1 := (Below.refl y.heap.size y).alloc (Nat.le_refl _) (.cells #[.int .u8 255, .int .u8 (fs.length : Int)] 5)
    have HSp := Lib.hid (split_any A A1 cc c1 l fs _ (HX.out.grow (Below.after' HB1.out k1 (Nat.le_refl _))) (HI1.out.grow k1) HI.out HFI.out hl (by omega))
    have HBf := Lib.hid (freshB2 (base := w.heap.size) (heap_alloc_new y (.cells #[.int .u8 255, .int .u8 (fs.length : Int)] 5)) HB1.out.size 255 (UInt8.ofNat fs.length) rfl (by rw [ofNat_lt (by omega)]))
    have HI1b := Lib.hid (HI1.out.grow k1)
    have HB1b := Lib.hid (Below.after' HB1.out k1 (Nat.le_refl _))
    clear k1 HI1 HB1
    refine HSp.out.mono ?_
    rintro ex z ⟨v1, v2, rfl, hr1, hr2, hb2⟩
    obtain ⟨A2, c2, rfl, hi2, hg2⟩ := hr1.readsB
    obtain ⟨A3, c3, rfl, hi3, hg3⟩ := hr2.readsB
    have HG2 := Lib.hid (show ∀ g o, A2 = some ⟨g, o, none⟩ → some g ≠ some y.heap.size from fun g o e e2 => by
      have := hg2 g o e
      injection e2 with e2
      simp at this
      omega)
    have HG3 := Lib.hid (show ∀ g o, A3 = some ⟨g, o, none⟩ → some g ≠ some y.heap.size from fun g o e e2 => by
      have := hg3 g o e
      injection e2 with e2
      simp at this
      omega)
    have HZ := Lib.hid (show y.heap.size < z.heap.size from Nat.lt_of_lt_of_le (by simp) hb2.size)
    have htl : (Po.tokens fs l).length = l.length := by unfold Po.tokens; rw [List.length_map]
    have hll : (Po.left fs l).length ≤ l.length := List.length_filter_le _ _
    have HT := Lib.hid (tokens_i64 fs l (by omega))
    have HLf := Lib.hid (show ∀ v ∈ Po.left fs l, I64 v from fun v hv => HI.out v ((List.mem_filter.1 hv).1))
    have HI1c := Lib.hid (HI1b.out.grow hb2)
    have HI2 := Lib.hid hi2
    have HI3 := Lib.hid hi3
    have HB2 := Lib.hid (Below.after' HB1b.out hb2 (Nat.le_refl _))
    have HBg := Lib.hid (HBf.out.grow hb2)
    have HTL := Lib.hid htl
    clear hr1 hr2 hb2 hi2 hi3 hg2 hg3 HSp HI1b HB1b HBf htl
    generalize Po.tokens fs l = ts at *
    generalize Po.left fs l = rs at *
    go_wp2_with fail
    have k2 := (Below.refl z.heap.size z).alloc (Nat.le_refl _) (.cells #[.slice A1 fs.length c1, .slice A2 ts.length c2, .slice A3 rs.length c3] 72)
    have hblk := heap_alloc_new z (.cells #[.slice A1 fs.length c1, .slice A2 ts.length c2, .slice A3 rs.length c3] 72)
    have HK2 := Lib.hid k2
    have HBK := Lib.hid hblk
    clear k2 hblk
    generalize hW0 : z.alloc (.cells #[.slice A1 fs.length c1, .slice A2 ts.length c2, .slice A3 rs.length c3] 72) = W0 at *
    have hws := Lib.hid (show z.heap.size < W0.heap.size by rw [← hW0]; simp)
    clear hW0
    have HJ1 := Lib.hid (HI1c.out.grow HK2.out)
    have HJ2 := Lib.hid (HI2.out.grow HK2.out)
    have HJ3 := Lib.hid (HI3.out.grow HK2.out)
    go_loopw [6, 34] (fun v t wr => ∃ (i : Nat) (acc : List UInt8), i ≤ 3 ∧ t = .int .i64 i ∧ BRow wr w.heap.size 5 v acc ∧ 0 < acc.length ∧ acc.length ≤ 600000 * i + 2 ∧ preB acc (joinS ([fs, ts, rs].drop i)) = fo ∧ Below w.heap.size w wr ∧ W0.grownBy wr (some y.heap.size) ∧ (v.ownBlock = some y.heap.size ∨ ∀ g, v.ownBlock = some g → W0.heap.size ≤ g)) (fun _ t _ => 3 - (intOf t).toNat)
    case atStart => exact ⟨0, _, by omega, rfl, HBg.out.grow HK2.out, by simp, by simp, by rw [hfin.out]; rfl, Below.after' HB2.out HK2.out (Nat.le_refl _), World.grownBy.refl _ _, .inl rfl⟩
    case round =>
      obtain ⟨i, acc, hi, rfl, hrow, hac, hal, hfo, hB, hgr, hown⟩ := hrel
      obtain ⟨Aa, ca, rfl, _⟩ := hrow.at_
      have HR := Lib.hid hrow
      have HFO := Lib.hid hfo
      have HW := Lib.hid hB
      have HGR := Lib.hid hgr
      have HOW := Lib.hid hown
      clear hfo hown
      by_cases h1 : i < 3
      · -- the row of number i
        have hrow9 : ∃ (P : List Int) (Ap : Option Addr) (cp : Nat), ([fs, ts, rs])[i]? = some P ∧ wr.cell? ⟨z.heap.size, i, none⟩ = some (.slice Ap P.length cp) ∧ Ints wr Ap cp P ∧ (∀ v ∈ P, I64 v) ∧ P.length ≤ 100000 := by
          have hb9 := (blk_facts ((hgr.block z.heap.size hws.out (by intro e; injection e with e; have := HZ.out; omega)).trans HBK.out)).1
          obtain rfl | rfl | rfl : i = 0 ∨ i = 1 ∨ i = 2 := by omega
          · exact ⟨fs, A1, c1, rfl, hb9 0, HJ1.out.kept hgr HG1.out, HFI.out, by omega⟩
          · exact ⟨ts, A2, c2, rfl, hb9 1, HJ2.out.kept hgr HG2.out, HT.out, by have := HTL.out; omega⟩
          · exact ⟨rs, A3, c3, rfl, hb9 2, HJ3.out.kept hgr HG3.out, HLf.out, by omega⟩
        obtain ⟨P, Ap, cp, hPi, hcell, hPI, hP64, hPl⟩ := hrow9
        have hz9 : z.heap.size < wr.heap.size := Nat.lt_of_lt_of_le hws.out hgr.size
        have hdr := Lib.hid (drop_atI hPi)
        have HSh := Lib.hid (shortest_any Ap cp P wr hPI hP64 (by omega))
        have hw9 := hB.size
        have p1 : decide ((i : Int) < 3) = true := decide_eq_true (by omega)
        clear hPi hPI hP64 hrow hB hgr
        go_wp2_with fail
        refine HSh.out.mono ?_
        intro ex w5 hres
        cases hs : short P with
        | none =>
          rw [hs] at hres
          obtain ⟨rfl, hb5⟩ := hres
          have hf := HFO.out
          rw [hdr.out, joinS_none _ hs] at hf
          have hfin9 := Lib.hid (show fo = none from hf.symm)
          have HB5 := Lib.hid (Below.after' HW.out hb5 (Nat.le_refl _))
          clear hf hb5 hs
          go_wp2_with fail
          go_ret
          exact ⟨_, rfl, by rw [hfin9.out]; rfl, HB5.out⟩
        | some sx =>
          rw [hs] at hres
          obtain ⟨u, rfl, hr5, hb5⟩ := hres
          obtain ⟨A5, c5, rfl, hba⟩ := hr5.at_
          have hsl := short_len hs
          have hf := HFO.out
          rw [hdr.out, joinS_some _ hs, preB_pre] at hf
          have HF9 := Lib.hid hf
          have HBA := Lib.hid hba
          have HR5 := Lib.hid (HR.out.grow hb5)
          have HW5 := Lib.hid (Below.after' HW.out hb5 (Nat.le_refl _))
          have HG5 := Lib.hid (grownBy_trans HGR.out (grownBy_below hb5 none) (.inr fun g e => by cases e))
          clear hf hb5 hs hba hr5 HSh
          go_wp2_with (at_builtin; refine wpList_appBy rfl _ _ _ rfl w.heap.size _ acc sx rfl HR5.out _ rfl HBA.out.src (by omega) HW5.out.size ?_; intro v6 w6 hr6 hp6; have HR6 := Lib.hid hr6; have HW6 := Lib.hid (HW5.out.trans (hop_base HR5.out hp6 (Nat.le_refl _) HW5.out.size)); have HG6 := Lib.hid (hop_grown HG5.out hp6 HOW.out); clear hr6 hp6)
          go_roundw
          case rel => exact ⟨i + 1, acc ++ sx, by omega, by go_num, HR6.out, by simp; omega, by simp only [List.length_append]; omega, HF9.out, HW6.out, HG6.out.1, HG6.out.2⟩
          case measure => simp [intOf]; omega
      · have hii : i = 3 := by omega
        subst hii
        have p1 : decide ((3 : Int) < 3) = false := by decide
        have hf := HFO.out
        have hfin9 := Lib.hid (show fo = some acc from by rw [← hf]; show preB acc (some []) = _; simp [preB])
        clear hf hrow hB hgr
        go_wp2_with fail
        go_ret
        exact ⟨_, rfl, by rw [hfin9.out]; exact bestIs_of HR.out hac, HW.out⟩
end Go.Proofs.YtkdamaomhppkgaaGreat

/- The walk of layer 26: a band's bytes. -/
namespace Go.Proofs.YtkdamaomhppkgaaGreat
open Go.RowKit Pp

theorem bandW_none {l : List Int} (h : short l = none) : bandW l = none := by unfold bandW; rw [h]; rfl
theorem bandW_few {l : List Int} {s : List UInt8} (h : short l = some s) (hl : l.length < 8) : bandW l = some s := by unfold bandW; rw [h]; simp only [Option.map_some]; rw [if_pos hl]
theorem bandW_more {l : List Int} {s : List UInt8} (h : short l = some s) (hl : ¬ l.length < 8) : bandW l = some (([1, 3, 15] : List Nat).foldl (fun b m => better b (fav l m)) s) := by unfold bandW; rw [h]; simp only [Option.map_some]; rw [if_neg hl]; simp only [List.foldl_cons, List.foldl_nil]
set_option maxHeartbeats 8000000 in
set_option maxRecDepth 100000 in
theorem bwrite_any (A : Option Addr) (cc : Nat) (l : List Int) (w : World) (hx : Ints w A cc l) (hI : ∀ v ∈ l, I64 v) (hl : l.length ≤ 100000) :
    Calls Tryz.prog 31 #[.slice A l.length cc] w (RowRes (bandW l) w) := by
  have HX := Lib.hid hx
  have HI := Lib.hid hI
  have HSh := Lib.hid (shortest_any A cc l w hx hI (by omega))
  have HFv := Lib.hid (fun m (hm : m ≤ 15) w hx => favored_any A cc l w hx hI hl m hm)
  have hno := Lib.hid (fun h => bandW_none (l := l) h)
  have hfew := Lib.hid (fun s h => bandW_few (l := l) (s := s) h)
  have hmore := Lib.hid (fun s h => bandW_more (l := l) (s := s) h)
  have qn : ∀ (w : World) (a : Option Addr) (n c : Nat), (binOp .neq 23 (.slice a n c) (.slice none 0 0)).run Tryz.prog w = .ok (.bool !a.isNone) w := fun w a n c => by
    simp only [binOp]
    simp [Op.equal, Op.maxDepth, Lib.run_equalIn_slice_nil w 9999 23 5 a n c 0 0 Tryz.underlying23]
  clear hx hI
  have p0 : decide ((16777216 : Int) < (l.length : Int)) = false := decide_eq_false (by omega)
  have p00 : decide (16777216 < l.length) = false := decide_eq_false (by omega)
  go_enter Tryz.func31, Tryz.ntmps31
  go_wp2_with fail
  refine HSh.out.mono ?_
  intro ex w1 hres
  cases hs : short l with
  | none =>
    rw [hs] at hres
    obtain ⟨rfl, hb1⟩ := hres
    have hfin := Lib.hid (hno.out hs)
    have HB1 := Lib.hid hb1
    clear hb1 hs
    go_wp2_with fail
    go_ret2
    exact rowRes_none hfin.out rfl HB1.out
  | some s =>
    rw [hs] at hres
    obtain ⟨u, rfl, hr1, hb1⟩ := hres
    obtain ⟨A1, c1, rfl, hba⟩ := hr1.at_
    have HR1 := Lib.hid hr1
    have HB1 := Lib.hid hb1
    have hsl := short_len hs
    by_cases h8 : l.length < 8
    · have p1 : decide ((l.length : Int) < 8) = true := decide_eq_true (by omega)
      have p2 : decide (l.length < 8) = true := decide_eq_true h8
      have hfin := Lib.hid (hfew.out s hs h8)
      clear hb1 hr1 hba hs
      go_wp2_with fail
      go_ret2
      exact rowRes_some hfin.out rfl HR1.out HB1.out
    · have p1 : decide ((l.length : Int) < 8) = false := decide_eq_false (by omega)
      have p2 : decide (l.length < 8) = false := decide_eq_false h8
      have hfin := Lib.hid (hmore.out s hs h8)
      clear hb1 hr1 hba hs
      go_wp2_with fail
      have k2 := (Below.refl w1.heap.size w1).alloc (Nat.le_refl _) (.cells #[.int .i64 1, .int .i64 3, .int .i64 15] 3)
      have hblk := heap_alloc_new w1 (.cells #[.int .i64 1, .int .i64 3, .int .i64 15] 3)
      have HK2 := Lib.hid k2
      have HBK := Lib.hid hblk
      clear k2 hblk
      generalize hW0 : w1.alloc (.cells #[.int .i64 1, .int .i64 3, .int .i64 15] 3) = W0 at *
      have hws := Lib.hid (show w1.heap.size < W0.heap.size by rw [← hW0]; simp)
      have HW0 := Lib.hid (Below.after' HB1.out HK2.out (Nat.le_refl _))
      clear hW0
      go_loopw [4, 28] (fun v t wr => ∃ (i : Nat) (acc : List UInt8), i ≤ 3 ∧ t = .int .i64 i ∧ BRow wr w.heap.size 5 v acc ∧ some ((([1, 3, 15] : List Nat).drop i).foldl (fun b m => better b (fav l m)) acc) = bandW l ∧ Below W0.heap.size W0 wr) (fun _ t _ => 3 - (intOf t).toNat)
      case atStart => exact ⟨0, s, by omega, rfl, HR1.out.grow HK2.out, hfin.out.symm, Below.refl _ _⟩
      case round =>
        obtain ⟨i, acc, hi, rfl, hrow, hfo, hB⟩ := hrel
        obtain ⟨Aa, ca, rfl, _⟩ := hrow.at_
        have HR := Lib.hid hrow
        have HFO := Lib.hid hfo
        have HW := Lib.hid hB
        have HWW := Lib.hid (Below.after' HW0.out hB (Nat.le_refl _))
        clear hfo
        by_cases h1 : i < 3
        · have hnum : ∃ m : Nat, m ≤ 15 ∧ ([1, 3, 15] : List Nat)[i]? = some m ∧ wr.cell? ⟨w1.heap.size, i, none⟩ = some (.int .i64 (m : Int)) := by
            have hb9 := (blk_facts ((hB.block w1.heap.size hws.out).trans HBK.out)).1
            obtain rfl | rfl | rfl : i = 0 ∨ i = 1 ∨ i = 2 := by omega
            · exact ⟨1, by omega, rfl, hb9 0⟩
            · exact ⟨3, by omega, rfl, hb9 1⟩
            · exact ⟨15, by omega, rfl, hb9 2⟩
          obtain ⟨m, hm, hmi, hcell⟩ := hnum
          have hz9 : w1.heap.size < wr.heap.size := Nat.lt_of_lt_of_le hws.out hB.size
          have hdr := Lib.hid (drop_atI hmi)
          have HF := Lib.hid (HFv.out m hm wr (HX.out.grow HWW.out))
          have p3 : decide ((i : Int) < 3) = true := decide_eq_true (by omega)
          clear hmi hrow hB HFv
          go_wp2_with fail
          refine HF.out.mono ?_
          rintro ex w5 ⟨v, rfl, hbi, hb5⟩
          have hf := HFO.out
          rw [hdr.out, List.foldl_cons] at hf
          have HR5 := Lib.hid (HR.out.grow hb5)
          have HW5 := Lib.hid (Below.after' HW.out hb5 (Nat.le_refl _))
          have hsz := HWW.out.size
          clear HF
          cases hv : fav l m with
          | none =>
            rw [hv] at hbi hf
            obtain rfl := hbi
            have hf2 := Lib.hid (show some ((([1, 3, 15] : List Nat).drop (i + 1)).foldl (fun b m => better b (fav l m)) acc) = bandW l from hf)
            clear hb5 hf hv
            go_wp2_with fail
            go_roundw
            case rel => exact ⟨i + 1, acc, by omega, by go_num, HR5.out, hf2.out, HW5.out⟩
            case measure => simp [intOf]; omega
          | some q =>
            rw [hv] at hbi hf
            obtain ⟨g, c9, rfl, hrq⟩ := hbi
            by_cases hlt : q.length < acc.length
            · have p4 : decide ((q.length : Int) < (acc.length : Int)) = true := decide_eq_true (by omega)
              have p5 : decide (q.length < acc.length) = true := decide_eq_true hlt
              have hbt : better acc (some q) = q := if_pos hlt
              rw [hbt] at hf
              have hf2 := Lib.hid hf
              have HQ := Lib.hid (brow_base hrq hsz)
              clear hb5 hf hv hrq hbt
              go_wp2_with fail
              go_roundw
              case rel => exact ⟨i + 1, q, by omega, by go_num, HQ.out, hf2.out, HW5.out⟩
              case measure => simp [intOf]; omega
            · have p4 : decide ((q.length : Int) < (acc.length : Int)) = false := decide_eq_false (by omega)
              have p5 : decide (q.length < acc.length) = false := decide_eq_false hlt
              have hbt : better acc (some q) = acc := if_neg hlt
              rw [hbt] at hf
              have hf2 := Lib.hid hf
              clear hb5 hf hv hrq hbt
              go_wp2_with fail
              go_roundw
              case rel => exact ⟨i + 1, acc, by omega, by go_num, HR5.out, hf2.out, HW5.out⟩
              case measure => simp [intOf]; omega
        · have hii : i = 3 := by omega
          subst hii
          have p3 : decide ((3 : Int) < 3) = false := by decide
          have hfin9 := Lib.hid (show bandW l = some acc from HFO.out.symm)
          clear hrow hB
          go_wp2_with fail
          go_ret2
          exact rowRes_some hfin9.out rfl HR.out HWW.out
end Go.Proofs.YtkdamaomhppkgaaGreat
