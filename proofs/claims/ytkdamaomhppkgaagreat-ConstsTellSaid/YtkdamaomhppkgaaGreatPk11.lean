/- Joined texts: BdI, BdJ, BdL, WdP, CbE, CbF, CbG, CbH, CbI, Ch, WdQ, Ci, GrowTail, Cmp. -/
import Derived.Test.YtkdamaomhppkgaaGreatPk9
import Derived.Test.YtkdamaomhppkgaaGreatPk10
import Derived.Below
import Derived.Deep.OwnRows
import Derived.Test.YtkdamaomhppkgaaGreatPk7
import Derived.Test.YtkdamaomhppkgaaGreatPk1
import Derived.StillTail
import Derived.Test.YtkdamaomhppkgaaGreatPk2
import Derived.Sort.Grow
/- The walks of layer 26's statements: what they are asked of. -/
namespace Go.Proofs.YtkdamaomhppkgaaGreat
open Go.RowKit Pp

theorem all_snoc (p : Int → Bool) (l : List Int) (i : Nat) (x : Int) (h : l[i]? = some x) : (l.take (i + 1)).all p = ((l.take i).all p && p x) := by
  rw [take_snocI l i x h, List.all_append]
  simp
theorem boundI_one (v : Int) : boundI 1 v = (decide (-2147483648 ≤ v) && decide (v < 2147483648)) := by unfold boundI; rw [if_neg (by decide), Bool.decide_and]
theorem boundI_nil (v : Int) : boundI 0 v = (decide (0 ≤ v) && decide (v < 4294967296)) := by unfold boundI; rw [if_pos rfl, Bool.decide_and]
end Go.Proofs.YtkdamaomhppkgaaGreat

/- The walk of layer 26's statements: the calls whose answers are fixed. -/
namespace Go.Proofs.YtkdamaomhppkgaaGreat
open Go.RowKit Pp

theorem brow_at2 {w : World} {base : Nat} {v : Value} {l : List UInt8} (h : BRow w base 5 v l) : ∃ A c, v = .slice A l.length c ∧ BAt w A c l ∧ (A = none → c = 0) := by
  obtain ⟨A, c, rfl, hb⟩ := h.at_
  refine ⟨A, c, rfl, hb, fun e => ?_⟩
  rcases h.2 with ⟨h2, _⟩ | ⟨g, cap, cur, h2, _⟩
  · injection h2 with q1 q2 q3
  · injection h2 with q1 q2 q3
    rw [e] at q1
    cases q1
theorem ints_blk (w : World) (xs : List Int) (t : TypeId) : Ints (w.alloc (.cells (ic xs).toArray t)) (some ⟨w.heap.size, 0, none⟩) xs.length xs :=
  ⟨Nat.le_refl _, fun _ => ⟨w.heap.size, 0, rfl, by simp, fun j x hx => by
    rw [Nat.zero_add, (blk_facts (heap_alloc_new w (.cells (ic xs).toArray t))).1 j]
    simp only [List.getElem?_toArray]
    exact ic_get hx⟩⟩
theorem bandW_of {l : List Int} (h : boundsI l = true) : ∃ b, bandW l = some b := by
  have := bandW_some l
  rw [h] at this
  exact Option.isSome_iff_exists.1 this
theorem bandW_no {l : List Int} (h : boundsI l = false) : bandW l = none := by
  have := bandW_some l
  rw [h] at this
  cases hb : bandW l with
  | none => rfl
  | some b => rw [hb] at this; cases this
theorem bandW_nil : bandW [] = some [0] := by
  have h : short [] = some [0] := by decide
  exact bandW_few h (by decide)
end Go.Proofs.YtkdamaomhppkgaaGreat

/- Plain facts of layer 26's reading (the first part of Band/XBdL: for a seat that lacks BandReads). -/
namespace Go.Proofs.YtkdamaomhppkgaaGreat
open Go.RowKit Pp

theorem read_rest (c : Cod) : ∀ (n : Nat) (last : Int) (r : List UInt8) (q : List Int × List UInt8), c.read n last r = .ok q → ∃ j, n ≤ j ∧ j ≤ r.length ∧ q.2 = r.drop j
  | 0, last, r, q, h => by
    simp only [Cod.read, Except.ok.injEq] at h
    subst h
    exact ⟨0, Nat.le_refl _, Nat.zero_le _, rfl⟩
  | n + 1, last, r, q, h => by
    rw [Cod.read_succ] at h
    cases hg : c.get r with
    | error e => rw [hg] at h; cases h
    | ok p =>
      obtain ⟨j1, a1, a2, a3⟩ := Cod.get_moves (v := p.1) (r := p.2) hg
      rw [hg] at h
      dsimp only at h
      split at h
      · cases hr : c.read n (c.sum last p.1) p.2 with
        | error e => rw [hr] at h; cases h
        | ok q2 =>
          rw [hr] at h
          simp only [pre, Except.ok.injEq] at h
          subst h
          obtain ⟨j2, b1, b2, b3⟩ := read_rest c n _ _ _ hr
          rw [a3, List.length_drop] at b2
          refine ⟨j1 + j2, by omega, by omega, ?_⟩
          dsimp only
          rw [b3, a3, List.drop_drop]
      · cases h
theorem plainR_rest {kind n : Nat} {r : List UInt8} {q : List Int × List UInt8} (h : plainR kind n r = .ok q) : ∃ j, n ≤ j ∧ j ≤ r.length ∧ q.2 = r.drop j := by
  unfold plainR at h
  cases hc : cods[kind]? with
  | none => rw [hc] at h; cases h
  | some c =>
    rw [hc] at h
    dsimp only at h
    split at h
    · cases h
    · exact read_rest c n 0 r q h
theorem nextR_rest {n : Nat} {r : List UInt8} {q : List Int × List UInt8} (h : nextR n r = .ok q) : ∃ j, n + 1 ≤ j ∧ j ≤ r.length ∧ q.2 = r.drop j := by
  cases r with
  | nil => cases h
  | cons k r =>
    obtain ⟨j, h1, h2, h3⟩ := plainR_rest (show plainR k.toNat n r = .ok q from h)
    exact ⟨j + 1, by omega, by simp; omega, by rw [h3]; rfl⟩
theorem trio_facts {m n : Nat} {L : List UInt8} {q : List Int × List UInt8} (h : trio m n L = .ok q) : q.1.length = n ∧ ∃ j, n ≤ j ∧ j ≤ L.length ∧ q.2 = L.drop j := by
  unfold trio at h
  cases g1 : nextR m L with
  | error e => rw [g1] at h; cases h
  | ok p1 =>
    obtain ⟨fs, r1⟩ := p1
    rw [g1] at h
    dsimp only at h
    cases g2 : nextR n r1 with
    | error e => rw [g2] at h; cases h
    | ok p2 =>
      obtain ⟨ts, r2⟩ := p2
      rw [g2] at h
      dsimp only at h
      cases g3 : nextR (ts.count 0) r2 with
      | error e => rw [g3] at h; cases h
      | ok p3 =>
        obtain ⟨rs, r3⟩ := p3
        rw [g3] at h
        dsimp only at h
        split at h
        · rename_i he
          cases h
          dsimp only
          obtain ⟨j1, a1, a2, a3⟩ := nextR_rest g1
          obtain ⟨j2, b1, b2, b3⟩ := nextR_rest g2
          obtain ⟨j3, c1, c2, c3⟩ := nextR_rest g3
          dsimp only at a3 b3 c3
          have hts := (nextR_facts g2).1
          dsimp only at hts
          rw [a3, List.length_drop] at b2
          rw [b3, a3, List.length_drop, List.length_drop] at c2
          refine ⟨by unfold Po.out; rw [if_pos he, Po.rowN_length, hts], j1 + j2 + j3, by omega, by omega, ?_⟩
          rw [c3, b3, a3, List.drop_drop, List.drop_drop, Nat.add_assoc]
        · cases h
/-- A band that is read has no more numbers than bytes. -/
theorem bandR_facts {n : Nat} {L : List UInt8} {q : List Int × List UInt8} (h : bandR n L = .ok q) : q.1.length = n ∧ ∃ j, n ≤ j ∧ j ≤ L.length ∧ q.2 = L.drop j := by
  cases L with
  | nil => cases h
  | cons k r =>
    by_cases hk : k = 255
    · subst hk
      rw [bandR_join] at h
      cases r with
      | nil => cases h
      | cons m r =>
        by_cases hm : m.toNat < 1 ∨ 15 < m.toNat
        · rw [joinR_bad hm] at h; cases h
        · rw [joinR_trio hm] at h
          obtain ⟨h1, j, h2, h3, h4⟩ := trio_facts h
          exact ⟨h1, j + 2, by omega, by simp; omega, by rw [h4]; rfl⟩
    · rw [bandR_cons hk] at h
      have h1 := (plainR_facts h).1
      obtain ⟨j, h2, h3, h4⟩ := plainR_rest h
      exact ⟨h1, j + 1, by omega, by simp; omega, by rw [h4]; rfl⟩
theorem outc_band_len {n : Nat} {L r : List UInt8} {vs : List Int} {e : Int} (h : Outc (bandR n L) [] vs e r) : vs.length ≤ L.length := by
  cases g : bandR n L with
  | error e2 =>
    rw [g] at h
    rw [h.2.2]
    simp
  | ok p =>
    rw [g] at h
    obtain ⟨h1, j, h2, h3, _⟩ := bandR_facts g
    rw [h.2.1]
    omega
theorem outc_same {o : Except Int (List Int × List UInt8)} {v v' : List Int} {e e' : Int} {r r' : List UInt8} (h : Outc o [] v e r) (k : Outc o [] v' e' r') : v' = v ∧ e' = e ∧ (e = 0 → r' = r) := by
  cases o with
  | error q =>
    obtain ⟨rfl, h1, rfl⟩ := h
    obtain ⟨rfl, _, rfl⟩ := k
    exact ⟨rfl, rfl, fun h => absurd h h1⟩
  | ok p =>
    obtain ⟨rfl, rfl, rfl⟩ := h
    obtain ⟨rfl, rfl, rfl⟩ := k
    exact ⟨rfl, rfl, fun _ => rfl⟩
theorem drop_same {l : List UInt8} {m m' : Nat} (h : m ≤ l.length) (h' : m' ≤ l.length) (e : l.drop m' = l.drop m) : m' = m := by
  have := congrArg List.length e
  simp only [List.length_drop] at this
  omega
end Go.Proofs.YtkdamaomhppkgaaGreat

/- Plain facts of layer 27 for its walks: columns by place; a row of numbers that is made; what is written. -/
namespace Go.Proofs.YtkdamaomhppkgaaGreat
open Go.RowKit Pp

/-- The text ahead of place i. -/
def wPrev (last : List UInt8) (l : List (List UInt8)) (i : Nat) : List UInt8 := if i = 0 then last else (l[i - 1]?).getD []
theorem wPrev_succ {last : List UInt8} {l : List (List UInt8)} {i : Nat} {s : List UInt8} (h : l[i]? = some s) : wPrev last l (i + 1) = s := by simp [wPrev, h]
theorem wPrev_cons (a : List UInt8) (last : List UInt8) (l : List (List UInt8)) (i : Nat) : wPrev last (a :: l) (i + 1) = wPrev a l i := by
  unfold wPrev
  cases i <;> simp
theorem wBegins_get {l : List (List UInt8)} : ∀ {i : Nat} {last s : List UInt8}, l[i]? = some s → (wBegins last l)[i]? = some ((shared (wPrev last l i) s : Nat) : Int) := by
  induction l with
  | nil => intro i last s h; simp at h
  | cons a l ih =>
    intro i last s h
    cases i with
    | zero =>
      simp at h
      subst h
      simp [wBegins, wPrev]
    | succ i =>
      rw [wPrev_cons]
      simpa [wBegins] using ih (last := a) (by simpa using h)
theorem wMore_get {l : List (List UInt8)} : ∀ {i : Nat} {last s : List UInt8}, l[i]? = some s → (wMore last l)[i]? = some ((s.length - shared (wPrev last l i) s : Nat) : Int) := by
  induction l with
  | nil => intro i last s h; simp at h
  | cons a l ih =>
    intro i last s h
    cases i with
    | zero =>
      simp at h
      subst h
      simp [wMore, wPrev]
    | succ i =>
      rw [wPrev_cons]
      simpa [wMore] using ih (last := a) (by simpa using h)
theorem wTail_at {l : List (List UInt8)} {i : Nat} {s p : List UInt8} (h : l[i]? = some s) : wTail p (l.drop i) = s.drop (shared p s) ++ wTail s (l.drop (i + 1)) := by
  rw [drop_atW h]
  rfl
theorem wTail_len : ∀ (l : List (List UInt8)) (last : List UInt8), (wTail last l).length ≤ sumL l
  | [], _ => by simp [wTail]
  | s :: l, last => by
    have := wTail_len l s
    have hs : sumL (s :: l) = s.length + sumL l := by simp [sumL]
    simp only [wTail, List.length_append, List.length_drop, hs]
    omega
theorem sumL_mem {l : List (List UInt8)} {i : Nat} {s : List UInt8} (h : l[i]? = some s) : s.length ≤ sumL l := by
  have h1 := sumL_take_succ h
  have h2 := sumL_take_le l (i + 1)
  omega
theorem wBegins_mem : ∀ (l : List (List UInt8)) (last : List UInt8), ∀ v ∈ wBegins last l, 0 ≤ v ∧ v ≤ (sumL l : Nat)
  | [], _, v, hv => by cases hv
  | s :: l, last, v, hv => by
    have hs : sumL (s :: l) = s.length + sumL l := by simp [sumL]
    rcases List.mem_cons.1 hv with rfl | hv
    · have := shared_le_r last s
      omega
    · have := wBegins_mem l s v hv
      omega
theorem wMore_mem : ∀ (l : List (List UInt8)) (last : List UInt8), ∀ v ∈ wMore last l, 0 ≤ v ∧ v ≤ (sumL l : Nat)
  | [], _, v, hv => by cases hv
  | s :: l, last, v, hv => by
    have hs : sumL (s :: l) = s.length + sumL l := by simp [sumL]
    rcases List.mem_cons.1 hv with rfl | hv
    · omega
    · have := wMore_mem l s v hv
      omega
theorem nat_bounds {xs : List Int} (h : ∀ v ∈ xs, 0 ≤ v ∧ v ≤ 1000000000) : boundsI xs = true := by
  unfold boundsI
  rw [Bool.or_eq_true]
  refine .inl (List.all_eq_true.2 fun v hv => ?_)
  have := h v hv
  unfold boundI
  rw [if_pos rfl]
  exact decide_eq_true ⟨this.1, by omega⟩
theorem nat_i64 {xs : List Int} (h : ∀ v ∈ xs, 0 ≤ v ∧ v ≤ 1000000000) : ∀ v ∈ xs, I64 v := fun v hv => by
  have := h v hv
  unfold I64
  omega
/-- What is written of a list that may be. -/
theorem words_some (l : List (List UInt8)) (hl : l.length ≤ 100000) (hs : sumL l ≤ 1000000000) : ∃ a b c, bandW [(l.length : Int)] = some a ∧ bandW (wBegins [] l) = some b ∧ bandW (wMore [] l) = some c ∧ wordsB l = some (a ++ b ++ c ++ wTail [] l) := by
  obtain ⟨a, ha⟩ := bandW_of (nat_bounds (xs := [(l.length : Int)]) fun v hv => by rw [List.mem_singleton] at hv; omega)
  obtain ⟨b, hb⟩ := bandW_of (nat_bounds (xs := wBegins [] l) fun v hv => by have := wBegins_mem l [] v hv; omega)
  obtain ⟨c, hc⟩ := bandW_of (nat_bounds (xs := wMore [] l) fun v hv => by have := wMore_mem l [] v hv; omega)
  refine ⟨a, b, c, ha, hb, hc, ?_⟩
  unfold wordsB
  rw [ha, hb, hc]
  rfl
theorem words_len {l : List (List UInt8)} {x : List UInt8} (h : wordsB l = some x) : x.length ≤ sumL l + 10 * l.length + 20 := by
  obtain ⟨a, b, c, ha, hb, hc, rfl⟩ := wordsB_some h
  have h1 := bandW_len ha
  have h2 := bandW_len hb
  have h3 := bandW_len hc
  have h4 := wTail_len l []
  rw [wBegins_len] at h2
  rw [wMore_len] at h3
  simp only [List.length_append, List.length_cons, List.length_nil] at h1 ⊢
  omega
theorem getD_of {xs : List Int} {i : Nat} {v : Int} (h : xs[i]? = some v) : xs.getD i 0 = v := by rw [List.getD_eq_getElem?_getD, h]; rfl
/-- A made row, filled. -/
theorem ints_full {w : World} {g n : Nat} {f : Nat → Value} {xs : List Int} (h : w.rowIs g 3 n f) (hn : xs.length = n) (hf : ∀ j, j < n → f j = .int .i64 (xs.getD j 0)) : Ints w (some ⟨g, 0, none⟩) n xs :=
  ⟨by omega, fun _ => ⟨g, 0, rfl, h.lt, fun j x hx => by
    have hj : j < n := by have := (List.getElem?_eq_some_iff.1 hx).1; omega
    rw [Nat.zero_add, h.cell hj, hf j hj, getD_of hx]⟩⟩
theorem rows_below {w y : World} {g n : Nat} {t : TypeId} {f : Nat → Value} (h : w.rowIs g t n f) (k : Below w.heap.size w y) : y.rowIs g t n f := h.of_block (k.block g h.lt)
theorem brow_set {w : World} {base : Nat} {v : Value} {l : List UInt8} (h : BRow w base 5 v l) {g : Nat} (hg : g < base) (o : Nat) (u : Value) : BRow (w.setCell ⟨g, o, none⟩ u) base 5 v l := ownsRow_setCell_below h hg u
theorem brow_mono {w : World} {base base2 : Nat} {v : Value} {l : List UInt8} (h : BRow w base 5 v l) (hb : base2 ≤ base) : BRow w base2 5 v l :=
  ⟨h.1, h.2.imp id fun ⟨g, cap, cur, e, h1, r⟩ => ⟨g, cap, cur, e, Nat.le_trans hb h1, r⟩⟩
theorem three_get {a b c x : List UInt8} {i : Nat} (h : [a, b, c][i]? = some x) : (([a, b, c].take (i + 1)).flatten : List UInt8) = ([a, b, c].take i).flatten ++ x := by
  match i, h with
  | 0, h => simp at h; subst h; simp
  | 1, h => simp at h; subst h; simp
  | 2, h => simp at h; subst h; simp
  | i + 3, h => simp at h
theorem three_len {a b c : List UInt8} (i : Nat) : (([a, b, c].take i).flatten : List UInt8).length ≤ a.length + b.length + c.length := by
  match i with
  | 0 => simp
  | 1 => simp; omega
  | 2 => simp
  | i + 3 => simp; omega
theorem wd_from (s : List UInt8) (k : Nat) (hk : k ≤ s.length) (w : World) : (Instr.slice 9 (.string (bs s)) (some (.int .i64 (k : Nat))) none none).run Tryz.prog w = .ok (.string (bs (s.drop k))) w := by
  have hz := bs_size s
  rw [run_slice_string_from_if w 9 (bs s) .i64 k (by kernel_rfl), if_pos (by omega), bs_extract, Int.toNat_natCast, List.take_of_length_le (by rw [List.length_drop]; omega)]
end Go.Proofs.YtkdamaomhppkgaaGreat

/- Layer 28 plain: a table that may be is written, and how long that is at most. -/
namespace Go.Proofs.YtkdamaomhppkgaaGreat
open Pp

theorem bounds0 {xs : List Int} (h : ∀ v ∈ xs, 0 ≤ v ∧ v < 4294967296) : boundsI xs = true := by
  unfold boundsI
  rw [Bool.or_eq_true]
  refine .inl (List.all_eq_true.2 fun v hv => ?_)
  have := h v hv
  unfold boundI
  rw [if_pos rfl]
  exact decide_eq_true this
theorem bandsW_some (N : Nat) : ∀ {rows : List (List Int)}, (∀ r ∈ rows, r.length ≤ N ∧ ∀ v ∈ r, 0 ≤ v ∧ v < 4294967296) → ∃ s, bandsW rows = some s ∧ s.length ≤ rows.length * (5 * N + 1)
  | [], _ => ⟨[], rfl, by simp⟩
  | r :: rows, h => by
    obtain ⟨h1, h2⟩ := h r (by simp)
    obtain ⟨a, ha⟩ := bandW_of (bounds0 h2)
    obtain ⟨b, hb, hl⟩ := bandsW_some N (fun q hq => h q (List.mem_cons_of_mem _ hq))
    have hla := bandW_len ha
    refine ⟨a ++ b, ?_, ?_⟩
    · unfold bandsW
      rw [ha, hb]
    · rw [List.length_append, List.length_cons, Nat.succ_mul]
      omega
theorem rk_le (O : List Pv) (v : Pv) : Pv.rk O v ≤ O.length := by
  induction O with
  | nil => simp [Pv.rk]
  | cons x xs ih =>
    rw [Pv.rk, List.length_cons]
    split
    · omega
    · split <;> omega
theorem tellA_in {O : List Pv} {v : Pv} (hl : O.length ≤ 100000) (hb : v.bits < 18446744073709551616) : 0 ≤ tellA O v ∧ tellA O v < 4294967296 := by
  unfold tellA
  split
  · omega
  · rename_i x _ _
    have := rk_le O x
    omega
theorem tellB_in {O : List Pv} {v : Pv} (hl : O.length ≤ 100000) : 0 ≤ tellB O v ∧ tellB O v < 4294967296 := by
  unfold tellB
  split
  · omega
  · rename_i x xs _
    have := rk_le O (xs.getLastD x)
    omega
theorem colsW_in {O : List Pv} (hl : O.length ≤ 100000) (hb : ∀ v ∈ O, v.bits < 18446744073709551616) (t : Int) : (colsW O t).length ≤ 2 ∧ ∀ r ∈ colsW O t, r.length ≤ O.length ∧ ∀ v ∈ r, 0 ≤ v ∧ v < 4294967296 := by
  have hA : ((Pv.row O t).map (tellA O)).length ≤ O.length ∧ ∀ v ∈ (Pv.row O t).map (tellA O), 0 ≤ v ∧ v < 4294967296 := ⟨by rw [List.length_map]; exact row_len O t, fun v hv => by
    obtain ⟨u, hu, rfl⟩ := List.mem_map.1 hv
    exact tellA_in hl (hb u (mem_row.1 hu).1)⟩
  have hB : ((Pv.row O t).map (tellB O)).length ≤ O.length ∧ ∀ v ∈ (Pv.row O t).map (tellB O), 0 ≤ v ∧ v < 4294967296 := ⟨by rw [List.length_map]; exact row_len O t, fun v hv => by
    obtain ⟨u, hu, rfl⟩ := List.mem_map.1 hv
    exact tellB_in hl⟩
  unfold colsW
  split
  · refine ⟨by simp, fun r hr => ?_⟩
    rw [List.mem_singleton.1 hr]
    exact hB
  · split
    · refine ⟨by simp, fun r hr => ?_⟩
      rw [List.mem_singleton.1 hr]
      exact hA
    · refine ⟨by simp, fun r hr => ?_⟩
      rcases List.mem_cons.1 hr with rfl | hr
      · exact hA
      · rw [List.mem_singleton.1 hr]
        exact hB
theorem rises_of_pairL : ∀ {l : List (List UInt8)}, l.Pairwise (· < ·) → risesL l
  | [], _ => trivial
  | [_], _ => trivial
  | a :: b :: l, h => by
    have h1 := List.pairwise_cons.1 h
    exact ⟨h1.1 b (by simp), rises_of_pairL h1.2⟩
theorem texts_rise {O : List Pv} (hO : Tbl O) : risesL (texts O) := by
  have h1 : (Pv.row O 1).Pairwise Pv.lt := List.Pairwise.filter _ hO.rises
  refine rises_of_pairL ?_
  unfold texts
  rw [List.pairwise_map]
  refine List.Pairwise.imp_of_mem (fun {a b} ha hb hab => ?_) h1
  obtain ⟨ma, ta⟩ := mem_row.1 ha
  obtain ⟨mb, tb⟩ := mem_row.1 hb
  rw [chk_text (hO.ok a ma) ta, chk_text (hO.ok b mb) tb] at hab
  rcases hab with h | ⟨_, h⟩
  · exact absurd h (by simp [Pv.key, Pv.ofText])
  · rcases h with h | ⟨_, h⟩
    · exact h
    · rcases h with h | ⟨_, h⟩
      · exact absurd h (by simp [Pv.key, Pv.ofText])
      · rcases h with h | ⟨_, h⟩
        · exact absurd h (txtL.irrefl _)
        · rcases h with h | ⟨_, h⟩
          · exact absurd h (txtL.irrefl _)
          · exact absurd h (txtL.irrefl _)
theorem texts_e {O : List Pv} (hO : Tbl O) (hl : O.length ≤ 100000) (hs : sumL (texts O) ≤ 16777216) : wordsE (texts O) = 0 := by
  have h1 : (texts O).length ≤ O.length := by unfold texts; rw [List.length_map]; exact row_len O 1
  unfold wordsE
  rw [if_neg (by omega), if_neg (fun h => h (texts_rise hO)), if_neg (by omega)]
theorem tblW_some {O : List Pv} (hl : O.length ≤ 100000) (hb : ∀ v ∈ O, v.bits < 18446744073709551616) (hs : sumL (texts O) ≤ 16777216) : ∃ x, tblW O = some x ∧ x.length ≤ sumL (texts O) + 10 * O.length + 20 + 21 * (5 * (O.length + 10) + 1) := by
  have h1 : (texts O).length ≤ O.length := by unfold texts; rw [List.length_map]; exact row_len O 1
  obtain ⟨_, _, _, _, _, _, hw⟩ := words_some (texts O) (by omega) (by omega)
  have hwl := words_len hw
  obtain ⟨s, h2, h3⟩ := bandsW_some (O.length + 10) (rows := rowsW O) (fun r hr => by
    unfold rowsW at hr
    rcases List.mem_cons.1 hr with rfl | hr
    · refine ⟨by rw [List.length_map]; have h9 : tOrder.length = 10 := rfl; omega, fun v hv => ?_⟩
      obtain ⟨t, _, rfl⟩ := List.mem_map.1 hv
      have := row_len O t
      omega
    · obtain ⟨t, _, hr⟩ := List.mem_flatMap.1 hr
      obtain ⟨a, b⟩ := (colsW_in hl hb t).2 r hr
      exact ⟨by omega, b⟩)
  have hrl : (rowsW O).length ≤ 21 := by
    unfold rowsW
    rw [List.length_cons]
    have hf : ∀ ts : List Int, (ts.flatMap (colsW O)).length ≤ 2 * ts.length := by
      intro ts
      induction ts with
      | nil => simp
      | cons t ts ih =>
        rw [List.flatMap_cons, List.length_append, List.length_cons]
        have := (colsW_in hl hb t).1
        omega
    have h9 := hf tOrder
    have h8 : tOrder.length = 10 := rfl
    omega
  refine ⟨_, by unfold tblW; rw [hw, h2]; rfl, ?_⟩
  rw [List.length_append]
  have h7 := Nat.mul_le_mul_right (5 * (O.length + 10) + 1) hrl
  omega
end Go.Proofs.YtkdamaomhppkgaaGreat

/- Layer 28 plain: the table of all that values need may be written; a table's own values give it again; how much there is of few values. No program. -/
namespace Go.Proofs.YtkdamaomhppkgaaGreat
open Pp

theorem tbl_closure {l : List Pv} (h : ∀ v ∈ l, v.chk 0 9 5 = 0) : Tbl (sd Pv.lt (clAll l)) :=
  ⟨sd_rises Pv.lin _, fun _v hv _x hx => (sd_mem Pv.lin _ _).2 (clAll_closed ((sd_mem Pv.lin _ _).1 hv) hx), fun _v hv => Pv.chk_cl h ((sd_mem Pv.lin _ _).1 hv)⟩
theorem tbl_again {O : List Pv} (hO : Tbl O) : sd Pv.lt (clAll O) = O := by
  refine rises_uniq Pv.lin (sd_rises Pv.lin _) hO.rises fun x => ?_
  rw [sd_mem Pv.lin]
  exact ⟨fun h => clAll_least (S := fun x => x ∈ O) (fun _ h => h) hO.closed h, clAll_has⟩
/-- What is read is the table of its own values. -/
theorem part_again {T : List Pv} (hT : Part T) : sd Pv.lt (clAll (allOf T)) = allOf T := tbl_again (allOf_tbl hT)
theorem putO_len2 {α : Type} [DecidableEq α] {lt : α → α → Prop} [DecidableRel lt] (l : List α) (v : α) : (putO lt l v).length ≤ l.length + 1 := by
  unfold putO
  split
  · omega
  · have h := congrArg List.length (List.takeWhile_append_dropWhile (p := fun x => decide (lt x v)) (l := l))
    rw [List.length_append] at h
    rw [List.length_append, List.length_cons]
    omega
theorem sd_len {α : Type} [DecidableEq α] {lt : α → α → Prop} [DecidableRel lt] (l : List α) : (sd lt l).length ≤ l.length := by
  have h : ∀ (l acc : List α), (l.foldl (putO lt) acc).length ≤ acc.length + l.length := by
    intro l
    induction l with
    | nil => intro acc; simp
    | cons x l ih =>
      intro acc
      rw [List.foldl_cons, List.length_cons]
      have h1 := ih (putO lt acc x)
      have h2 := putO_len2 (lt := lt) acc x
      omega
  have := h l []
  simpa [sd] using this
theorem clAll_len7 (l : List Pv) : (clAll l).length ≤ 7 * l.length := by
  induction l with
  | nil => simp [clAll]
  | cons v l ih =>
    have h := Pv.wt_le v
    unfold Pv.wt at h
    unfold clAll at ih ⊢
    rw [List.flatMap_cons, List.length_append, List.length_cons]
    omega
/-- Each text that is needed is a part of a value's own. -/
theorem cl_text {l : List Pv} {N : Nat} (h : ∀ v ∈ l, v.text.length + v.cls.length + v.name.length + v.desc.length ≤ N) {x : Pv} (hx : x ∈ clAll l) : x.text.length + x.cls.length + x.name.length + x.desc.length ≤ N := by
  refine clAll_least (S := fun x => x.text.length + x.cls.length + x.name.length + x.desc.length ≤ N) h (fun v hv y hy => ?_) hx
  unfold Pv.needs at hy
  split at hy
  · simp only [List.mem_singleton] at hy
    subst hy
    simp only [Pv.ofText, List.length_nil]
    omega
  · split at hy
    · simp only [List.mem_cons, List.not_mem_nil, or_false] at hy
      rcases hy with rfl | rfl <;> simp only [Pv.ofText, List.length_nil] <;> omega
    · split at hy
      · simp only [List.mem_cons, List.not_mem_nil, or_false] at hy
        rcases hy with rfl | rfl <;> simp only [Pv.ofCls, Pv.ofPair, List.length_nil] <;> omega
      · simp at hy
/-- Of sixty values of 300 bytes each at most. -/
theorem few_bounds {l : List Pv} (h1 : ∀ v ∈ l, v.text.length + v.cls.length + v.name.length + v.desc.length ≤ 300) (h2 : l.length ≤ 60) : (sd Pv.lt (clAll l)).length ≤ 420 ∧ sumL (texts (sd Pv.lt (clAll l))) ≤ 126000 := by
  have hl : (sd Pv.lt (clAll l)).length ≤ 420 := by
    have a := sd_len (lt := Pv.lt) (clAll l)
    have b := clAll_len7 l
    omega
  refine ⟨hl, ?_⟩
  have hb : ∀ s ∈ texts (sd Pv.lt (clAll l)), s.length ≤ 300 := fun s hs => by
    unfold texts at hs
    obtain ⟨v, hv, rfl⟩ := List.mem_map.1 hs
    have := cl_text h1 ((sd_mem Pv.lin _ _).1 (mem_row.1 hv).1)
    omega
  have hsum : ∀ {l : List (List UInt8)}, (∀ s ∈ l, s.length ≤ 300) → sumL l ≤ 300 * l.length := by
    intro l
    induction l with
    | nil => intro _; simp [sumL]
    | cons a l ih =>
      intro h
      have k1 := ih (fun s hs => h s (List.mem_cons_of_mem _ hs))
      have k2 := h a (by simp)
      have hs : sumL (a :: l) = a.length + sumL l := by simp [sumL]
      rw [hs, List.length_cons, Nat.mul_succ]
      omega
  have h9 := hsum hb
  have h8 : (texts (sd Pv.lt (clAll l))).length ≤ 420 := by
    unfold texts
    rw [List.length_map]
    exact Nat.le_trans (row_len _ 1) hl
  omega
end Go.Proofs.YtkdamaomhppkgaaGreat

/- Layer 28 plain: tables with the same rows are the same; what is read of a written table has its rows. No program. -/
namespace Go.Proofs.YtkdamaomhppkgaaGreat
open Pp

theorem mem_tag_row {A : List Pv} {v : Pv} : v ∈ A ↔ v ∈ Pv.row A v.tag := ⟨fun h => mem_row.2 ⟨h, rfl⟩, fun h => (mem_row.1 h).1⟩
theorem rows_mem {A B : List Pv} (h : ∀ t, Pv.row A t = Pv.row B t) (v : Pv) : v ∈ A ↔ v ∈ B := by rw [mem_tag_row, h, ← mem_tag_row]
theorem rows_rk {A B : List Pv} (h : ∀ t, Pv.row A t = Pv.row B t) (v : Pv) : Pv.rk A v = Pv.rk B v := by rw [rk_row A, rk_row B, h]
theorem rows_nums {A B : List Pv} (h : ∀ t, Pv.row A t = Pv.row B t) : Pv.nums A A.length = Pv.nums B B.length := by
  funext v
  rw [nums_all, nums_all, rows_rk h]
  by_cases hv : v ∈ A
  · rw [if_pos hv, if_pos ((rows_mem h v).1 hv)]
  · rw [if_neg hv, if_neg (fun h9 => hv ((rows_mem h v).2 h9))]
theorem order_tags {t : Int} (h : 1 ≤ t ∧ t ≤ 12) (h2 : t ≠ 2) : t ∈ (1 : Int) :: tOrder := by
  unfold tOrder
  simp only [List.mem_cons, List.not_mem_nil, or_false]
  omega
theorem chk_two {v : Pv} (h : v.chk 0 9 5 = 0) : v.tag ≠ 2 := by
  intro e
  unfold Pv.chk at h
  rw [if_neg (by omega), if_neg (by omega), if_neg (by omega), if_neg (by omega)] at h
  exact absurd h (by decide)
/-- What is read of a written table has its rows. -/
theorem rows_read {O : List Pv} (hO : Tbl O) (t : Int) : Pv.row (rowsOf O (1 :: tOrder)) t = Pv.row O t := by
  rw [row_rowsOf O t (by decide)]
  by_cases h : t ∈ (1 : Int) :: tOrder
  · rw [if_pos h]
  · rw [if_neg h]
    refine (List.eq_nil_iff_forall_not_mem.2 fun v hv => ?_).symm
    obtain ⟨h1, h2⟩ := mem_row.1 hv
    have hc := hO.ok v h1
    exact h (by rw [← h2]; exact order_tags (chk_tag hc) (chk_two hc))
/-- .. and so is a table's list of all values. -/
theorem rows_all {T : List Pv} (hT : Part T) (t : Int) : Pv.row (allOf T) t = Pv.row T t := by
  by_cases h : 0 ≤ t ∧ t ≤ 12
  · exact row_allOf T h.1 h.2
  · have e : ∀ A : List Pv, (∀ v ∈ A, v.chk 0 9 5 = 0) → Pv.row A t = [] := fun A hA => List.eq_nil_iff_forall_not_mem.2 fun v hv => by
      obtain ⟨h1, h2⟩ := mem_row.1 hv
      have := chk_tag (hA v h1)
      omega
    rw [e _ (allOf_tbl hT).ok, e _ hT.ok]
theorem rowsOf_nodup {O : List Pv} (hO : Tbl O) : (rowsOf O (1 :: tOrder)).Nodup := by
  have h : ∀ us : List Int, us.Nodup → (rowsOf O us).Nodup := by
    intro us
    induction us with
    | nil => intro _; exact List.nodup_nil
    | cons t us ih =>
      intro hn
      obtain ⟨h1, h2⟩ := List.nodup_cons.1 hn
      unfold rowsOf at ih ⊢
      rw [List.flatMap_cons, List.nodup_append]
      refine ⟨(rises_nodup Pv.lin hO.rises).filter _, ih h2, fun a ha b hb e => ?_⟩
      have ea := (mem_row.1 ha).2
      have eb := (mem_rowsOf.1 hb).2
      rw [← e, ea] at eb
      exact h1 eb
  exact h _ (by decide)
end Go.Proofs.YtkdamaomhppkgaaGreat

/- Layer 28 plain: how much text few values need. No program. -/
namespace Go.Proofs.YtkdamaomhppkgaaGreat
open Pp

theorem putO_sum {α : Type} [DecidableEq α] {lt : α → α → Prop} [DecidableRel lt] (f : α → Nat) (l : List α) (v : α) : ((putO lt l v).map f).sum ≤ (l.map f).sum + f v := by
  unfold putO
  split
  · omega
  · have h := congrArg (fun l => (List.map f l).sum) (List.takeWhile_append_dropWhile (p := fun x => decide (lt x v)) (l := l))
    simp only [List.map_append, List.sum_append] at h
    rw [List.map_append, List.sum_append, List.map_cons, List.sum_cons]
    omega
theorem sd_sum {α : Type} [DecidableEq α] {lt : α → α → Prop} [DecidableRel lt] (f : α → Nat) (l : List α) : ((sd lt l).map f).sum ≤ (l.map f).sum := by
  have h : ∀ (l acc : List α), ((l.foldl (putO lt) acc).map f).sum ≤ (acc.map f).sum + (l.map f).sum := by
    intro l
    induction l with
    | nil => intro acc; simp
    | cons x l ih =>
      intro acc
      rw [List.foldl_cons, List.map_cons, List.sum_cons]
      have h1 := ih (putO lt acc x)
      have h2 := putO_sum (lt := lt) f acc x
      omega
  have := h l []
  simpa [sd] using this
def textw (v : Pv) : Nat := if v.tag = 1 then v.text.length else 0
theorem sumL_texts (O : List Pv) : sumL (texts O) = (O.map textw).sum := by
  induction O with
  | nil => rfl
  | cons x xs ih =>
    unfold texts at ih ⊢
    rw [row_cons, List.map_cons, List.sum_cons, List.map_append]
    have hs : ∀ a b : List (List UInt8), sumL (a ++ b) = sumL a + sumL b := fun a b => by simp [sumL]
    rw [hs, ih]
    unfold textw
    by_cases h : x.tag = 1
    · rw [if_pos h, if_pos h]
      simp [sumL]
    · rw [if_neg h, if_neg h]
      simp [sumL]
theorem textw_text (s : List UInt8) : textw (Pv.ofText s) = s.length := rfl
theorem textw_cls (s : List UInt8) : textw (Pv.ofCls s) = 0 := rfl
theorem textw_pair (a b : List UInt8) : textw (Pv.ofPair a b) = 0 := rfl
theorem cl_textw (v : Pv) : (v.cl.map textw).sum ≤ v.text.length + v.cls.length + v.name.length + v.desc.length := by
  unfold Pv.cl
  by_cases c7 : v.tag = 7 ∨ v.tag = 8
  · have hn : v.needs = [Pv.ofText v.text] := by unfold Pv.needs; rw [if_pos c7]
    have h0 : textw v = 0 := by unfold textw; rw [if_neg (by omega)]
    rw [hn]
    simp [Pv.needs_text, textw_text, h0]
    try omega
  · by_cases c12 : v.tag = 12
    · have hn : v.needs = [Pv.ofText v.name, Pv.ofText v.desc] := by unfold Pv.needs; rw [if_neg c7, if_pos c12]
      have h0 : textw v = 0 := by unfold textw; rw [if_neg (by omega)]
      rw [hn]
      simp [Pv.needs_text, textw_text, h0]
      try omega
    · by_cases c9 : v.tag = 9 ∨ v.tag = 10 ∨ v.tag = 11
      · have hn : v.needs = [Pv.ofCls v.cls, Pv.ofPair v.name v.desc] := by unfold Pv.needs; rw [if_neg c7, if_neg c12, if_pos c9]
        have h0 : textw v = 0 := by unfold textw; rw [if_neg (by omega)]
        rw [hn]
        simp [Pv.needs_cls, Pv.needs_pair, textw_text, textw_cls, textw_pair, h0]
        try omega
      · have hn : v.needs = [] := by unfold Pv.needs; rw [if_neg c7, if_neg c12, if_neg c9]
        rw [hn]
        have h0 : textw v ≤ v.text.length := by unfold textw; split <;> omega
        simp
        omega
/-- Of sixty values of 300 bytes each at most: 18000 bytes of text. -/
theorem few_text {l : List Pv} (h1 : ∀ v ∈ l, v.text.length + v.cls.length + v.name.length + v.desc.length ≤ 300) (h2 : l.length ≤ 60) : sumL (texts (sd Pv.lt (clAll l))) ≤ 18000 := by
  rw [sumL_texts]
  refine Nat.le_trans (sd_sum textw (clAll l)) ?_
  have h : ∀ l : List Pv, (∀ v ∈ l, v.text.length + v.cls.length + v.name.length + v.desc.length ≤ 300) → ((clAll l).map textw).sum ≤ 300 * l.length := by
    intro l
    induction l with
    | nil => intro _; simp [clAll]
    | cons v l ih =>
      intro h
      have k1 := ih (fun u hu => h u (List.mem_cons_of_mem _ hu))
      have k2 := h v (by simp)
      have k3 := cl_textw v
      unfold clAll at k1 ⊢
      rw [List.flatMap_cons, List.map_append, List.sum_append, List.length_cons, Nat.mul_succ]
      omega
  have := h l h1
  omega
end Go.Proofs.YtkdamaomhppkgaaGreat

/- Layer 28 plain: no more values are read than there are bytes. -/
namespace Go.Proofs.YtkdamaomhppkgaaGreat
open Pp

theorem bandN_eat {n : Int} {r r1 : List UInt8} {vs : List Int} (h : bandN n r = .ok (vs, r1)) : vs.length + r1.length ≤ r.length := by
  unfold bandN at h
  split at h
  · cases h
  · obtain ⟨h1, j, h2, h3, h4⟩ := bandR_facts h
    have h5 : r1 = r.drop j := h4
    have h6 : vs.length = n.toNat := h1
    rw [h5, List.length_drop]
    omega
theorem wgo_eat (most : Int) : ∀ (ns ms : List Int) (f : Bool) (W : List UInt8) (S : Int) (r : List UInt8) (l : List (List UInt8)) (r' : List UInt8), wGo most f W S ns ms r = .ok (l, r') → l.length ≤ ns.length ∧ r'.length ≤ r.length
  | [], ms, f, W, S, r, l, r', h => by
    unfold wGo at h
    cases h
    exact ⟨Nat.le_refl _, Nat.le_refl _⟩
  | n :: ns, [], f, W, S, r, l, r', h => by
    unfold wGo at h
    cases h
    exact ⟨Nat.zero_le _, Nat.le_refl _⟩
  | n :: ns, m :: ms, f, W, S, r, l, r', h => by
    unfold wGo at h
    split at h
    · cases h
    · split at h
      · cases h
      · split at h
        · cases h
        · split at h
          · cases h
          · cases hg : wGo most false (W.take n.toNat ++ r.take m.toNat) (S + (n + m)) ns ms (r.drop m.toNat) with
            | error e => rw [hg] at h; cases h
            | ok q =>
              obtain ⟨l2, r2⟩ := q
              rw [hg] at h
              cases h
              obtain ⟨a, b⟩ := wgo_eat most ns ms false _ _ _ _ _ hg
              rw [List.length_drop] at b
              exact ⟨by simp only [List.length_cons]; omega, by omega⟩
theorem words_eat {most : Int} {r r' : List UInt8} {l : List (List UInt8)} (h : wordsR most r = .ok (l, r')) : l.length + r'.length ≤ r.length := by
  unfold wordsR at h
  split at h
  · cases h
  · cases g1 : bandR 1 r with
    | error e => rw [g1] at h; cases h
    | ok p1 =>
      obtain ⟨k, r0⟩ := p1
      rw [g1] at h
      dsimp only at h
      cases g2 : bandN (k.getD 0 0) r0 with
      | error e => rw [g2] at h; cases h
      | ok p2 =>
        obtain ⟨ns, r1⟩ := p2
        rw [g2] at h
        dsimp only at h
        cases g3 : bandN (k.getD 0 0) r1 with
        | error e => rw [g3] at h; cases h
        | ok p3 =>
          obtain ⟨ms, r2⟩ := p3
          rw [g3] at h
          dsimp only at h
          obtain ⟨a, b⟩ := wgo_eat most ns ms true [] 0 r2 l r' h
          have c1 := bandN_eat (n := 1) (show bandN 1 r = .ok (k, r0) from g1)
          have c2 := bandN_eat g2
          have c3 := bandN_eat g3
          omega
theorem colsR_eat {t n : Int} {r r1 : List UInt8} {cs : List (Int × Int)} (h : colsR t n r = .ok (cs, r1)) : cs.length + r1.length ≤ r.length := by
  unfold colsR at h
  split at h
  · cases hb : bandN n r with
    | error e => rw [hb] at h; cases h
    | ok q =>
      obtain ⟨v, q1⟩ := q
      rw [hb] at h
      cases h
      rw [List.length_map]
      exact bandN_eat hb
  · split at h
    · cases hb : bandN n r with
      | error e => rw [hb] at h; cases h
      | ok q =>
        obtain ⟨v, q1⟩ := q
        rw [hb] at h
        cases h
        rw [List.length_map]
        exact bandN_eat hb
    · cases hb : bandN n r with
      | error e => rw [hb] at h; cases h
      | ok q =>
        obtain ⟨v, q1⟩ := q
        rw [hb] at h
        dsimp only at h
        cases hb2 : bandN n q1 with
        | error e => rw [hb2] at h; cases h
        | ok q2 =>
          obtain ⟨v2, q3⟩ := q2
          rw [hb2] at h
          cases h
          have k1 := bandN_eat hb
          have k2 := bandN_eat hb2
          rw [List.length_zip]
          omega
theorem rowGo_len {T : List Pv} {t : Int} : ∀ (cs : List (Int × Int)) (first : Bool) (p : Pv) (L : List Pv), rowGo T t first p cs = .ok L → L.length = cs.length
  | [], first, p, L, h => by
    unfold rowGo at h
    cases h
    rfl
  | c :: cs, first, p, L, h => by
    unfold rowGo at h
    cases hm : madeT T t c.1 c.2 with
    | none => rw [hm] at h; cases h
    | some v =>
      rw [hm] at h
      dsimp only at h
      split at h
      · cases h
      · cases hg : rowGo T t false v cs with
        | error e => rw [hg] at h; cases h
        | ok l =>
          rw [hg] at h
          cases h
          rw [List.length_cons, List.length_cons, rowGo_len cs false v l hg]
theorem rowR_eat {T L : List Pv} {t n : Int} {r r1 : List UInt8} (h : rowR T t n r = .ok (L, r1)) : L.length + r1.length ≤ r.length := by
  unfold rowR at h
  cases hc : colsR t n r with
  | error e => rw [hc] at h; cases h
  | ok q =>
    obtain ⟨cs, r2⟩ := q
    rw [hc] at h
    dsimp only at h
    cases hg : rowGo T t true Pv.zero cs with
    | error e => rw [hg] at h; cases h
    | ok l =>
      rw [hg] at h
      cases h
      rw [rowGo_len cs true Pv.zero L hg]
      exact colsR_eat hc
theorem tblGo_eat : ∀ (ts ns : List Int) (T : List Pv) (r : List UInt8) (T' : List Pv) (r' : List UInt8), tblGo T ts ns r = .ok (T', r') → T'.length + r'.length ≤ T.length + r.length
  | [], ns, T, r, T', r', h => by unfold tblGo at h; cases h; exact Nat.le_refl _
  | t :: ts, [], T, r, T', r', h => by unfold tblGo at h; cases h; exact Nat.le_refl _
  | t :: ts, n :: ns, T, r, T', r', h => by
    unfold tblGo at h
    cases hr : rowR T t n r with
    | error e => rw [hr] at h; cases h
    | ok q =>
      obtain ⟨L, r1⟩ := q
      rw [hr] at h
      dsimp only at h
      have a := rowR_eat hr
      have b := tblGo_eat ts ns _ r1 T' r' h
      rw [List.length_append] at b
      omega
theorem tblR_eat {most : Int} {r r' : List UInt8} {T : List Pv} (h : tblR most r = .ok (T, r')) : T.length ≤ r.length := by
  unfold tblR at h
  cases hw : wordsR most r with
  | error e => rw [hw] at h; cases h
  | ok q =>
    obtain ⟨ss, r0⟩ := q
    rw [hw] at h
    dsimp only at h
    cases hb : bandN 10 r0 with
    | error e => rw [hb] at h; cases h
    | ok q2 =>
      obtain ⟨ns, r1⟩ := q2
      rw [hb] at h
      dsimp only at h
      have a := words_eat hw
      have b := bandN_eat hb
      have c := tblGo_eat _ _ _ _ _ _ h
      rw [List.length_map] at c
      omega
end Go.Proofs.YtkdamaomhppkgaaGreat

/- Layer 28: what serves in the walk that reads a tag's values: frames, one value more, columns as they are read. -/
namespace Go.Proofs.YtkdamaomhppkgaaGreat
open Go.RowKit Go.Maps Pp

/-- Below a base all blocks but one are as they were. -/
structure But (B b2 : Nat) (w w' : World) : Prop where
  os : w'.os = w.os
  tape : w'.tape = w.tape
  output : w'.output = w.output
  size : w.heap.size ≤ w'.heap.size
  block : ∀ k, k < B → k ≠ b2 → w'.heap[k]? = w.heap[k]?
section
variable {w w1 w2 : World} {B B' b2 : Nat}
theorem But.refl (B b2 : Nat) (w : World) : But B b2 w w := ⟨rfl, rfl, rfl, Nat.le_refl _, fun _ _ _ => rfl⟩
theorem But.trans (h : But B b2 w w1) (k : But B b2 w1 w2) : But B b2 w w2 := ⟨k.os.trans h.os, k.tape.trans h.tape, k.output.trans h.output, Nat.le_trans h.size k.size, fun j hj hn => (k.block j hj hn).trans (h.block j hj hn)⟩
theorem But.less (h : But B b2 w w1) (hB : B' ≤ B) : But B' b2 w w1 := ⟨h.os, h.tape, h.output, h.size, fun j hj hn => h.block j (Nat.lt_of_lt_of_le hj hB) hn⟩
theorem But.of (h : Below B' w w1) (hB : B ≤ B') : But B b2 w w1 := ⟨h.os, h.tape, h.output, h.size, fun j hj _ => h.block j (Nat.lt_of_lt_of_le hj hB)⟩
theorem But.grown (h : w.grownBy w1 (some b2)) (hB : B ≤ w.heap.size) : But B b2 w w1 := ⟨h.os, h.tape, h.output, h.size, fun j hj hn => h.block j (Nat.lt_of_lt_of_le hj hB) (fun e => hn (Option.some.inj e))⟩
theorem But.grownBy (h : But B b2 w w1) (hB : w.heap.size ≤ B) : w.grownBy w1 (some b2) := ⟨h.os, h.tape, h.output, h.size, fun j hj hn => h.block j (Nat.lt_of_lt_of_le hj hB) (fun e => hn (by rw [e]))⟩
end
/-- The cursor's blocks lie below a base. -/
def CurLow (base b2 : Nat) (A : Option Addr) (l : List UInt8) : Prop := b2 < base ∧ ∀ g o, A = some ⟨g, o, none⟩ → 0 < l.length → g < base
section
variable {x y : World} {base b2 c n : Nat} {A : Option Addr} {l : List UInt8} {e : Int}
theorem CurS.low (h : CurS x b2 A c l n e) (hB : x.heap.size ≤ base) : CurLow base b2 A l := ⟨Nat.lt_of_lt_of_le h.lt hB, fun g o hA hp => by
  obtain ⟨g', o', e', hg, _⟩ := h.row.2 hp
  rw [e'] at hA
  cases hA
  exact Nat.lt_of_lt_of_le hg hB⟩
theorem CurS.but (h : CurS x b2 A c l n e) (hL : CurLow base b2 A l) (k : Below base x y) : CurS y b2 A c l n e :=
  ⟨(k.block b2 hL.1).trans h.box, ⟨h.row.1, fun hp => by
    obtain ⟨g, o, e', hg, hc⟩ := h.row.2 hp
    exact ⟨g, o, e', Nat.lt_of_lt_of_le hg k.size, fun j u hu => (World.cell?_of_block (k.block g (hL.2 g o e' hp))).trans (hc j u hu)⟩⟩, h.le, h.small, h.shape⟩
theorem TabS.cur {b m n : Nat} {us : Nat → Value} {R : Nat → List Pv} {f : Pv → Int} {S : Pv → Bool} (h : TabS x base b m n us R f S) (k : x.grownBy y (some b2)) (hb : b2 < base) : TabS y base b m n us R f S :=
  ⟨h.box.kept k (fun e => by have := h.hb; have := Option.some.inj e; omega), fun t ht => (h.rows t ht).kept k (fun j hj e => by
    have := (World.ownsRow.lt (h.rows t ht) j hj).1
    have := Option.some.inj e
    omega), h.apart, h.num.kept k (fun e => by have := h.hm; have := Option.some.inj e; omega), h.hb, h.hm⟩
end
theorem rk_app {A : List Pv} {v : Pv} (h : v ∈ A) (B : List Pv) : Pv.rk (A ++ B) v = Pv.rk A v := by
  induction A with
  | nil => simp at h
  | cons x xs ih =>
    rw [List.cons_append]
    by_cases e : x = v
    · simp [Pv.rk, e]
    · rw [Pv.rk, Pv.rk, if_neg e, if_neg e, ih ((List.mem_cons.1 h).resolve_left fun h => e h.symm)]
theorem rk_new : ∀ {A : List Pv} {v : Pv}, v ∉ A → Pv.rk (A ++ [v]) v = (Pv.row A v.tag).length
  | [], v, _ => by simp [Pv.rk, Pv.row]
  | x :: xs, v, h => by
    have e : x ≠ v := fun e => h (by rw [e]; exact List.mem_cons_self ..)
    rw [List.cons_append, Pv.rk, if_neg e, row_cons, List.length_append, rk_new (fun h2 => h (List.mem_cons_of_mem _ h2))]
    by_cases et : x.tag = v.tag
    · rw [if_pos et, if_pos et]; rfl
    · rw [if_neg et, if_neg et]; rfl
/-- A table with one value more. -/
theorem TabOf.next {x : World} {base b m n t : Nat} {us : Nat → Value} {T : List Pv} {v : Pv} (hv : v ∉ T) (ht : v.tag = (t : Int))
    (h : TabS x base b m n us (fun k => if k = t then (fun t : Nat => Pv.row T t) t ++ [v] else (fun t : Nat => Pv.row T t) k) (fun u => if u = v then (((fun t : Nat => Pv.row T t) t).length : Int) else Pv.nums T T.length u) (fun u => decide (u = v) || decide (u ∈ T))) : TabOf x base b m n us (T ++ [v]) := by
  refine h.same (fun k => ?_) (fun u => ?_) (fun u => ?_)
  · dsimp only
    rw [row_app, row_cons, row_nil, List.append_nil]
    by_cases e : k = t
    · subst e
      rw [if_pos rfl, if_pos ht]
    · rw [if_neg e, if_neg (fun h => e (by omega)), List.append_nil]
  · dsimp only
    rw [nums_all, nums_all]
    by_cases e : u = v
    · subst e
      rw [if_pos rfl, if_pos (by simp), rk_new hv, ht]
    · rw [if_neg e]
      by_cases hu : u ∈ T
      · rw [if_pos hu, if_pos (by simp [hu]), rk_app hu]
      · rw [if_neg hu, if_neg (by simp [hu, e])]
  · by_cases e : u = v
    · simp [e]
    · simp [e]
theorem atT_app {T acc : List Pv} {t : Int} (h : ∀ v ∈ acc, v.tag = t) {u : Int} (hu : u ≠ t) (i : Int) : atT (T ++ acc) u i = atT T u i := by
  unfold atT
  rw [row_app, row_only h u, if_neg hu, List.append_nil]
theorem madeT_app {T acc : List Pv} {t : Int} (h : ∀ v ∈ acc, v.tag = t) (a b : Int) : madeT (T ++ acc) t a b = madeT T t a b := by
  unfold madeT
  by_cases h7 : t = 7 ∨ t = 8
  · simp only [if_pos h7]
    rw [atT_app h (by omega)]
  · simp only [if_neg h7]
    by_cases h12 : t = 12
    · simp only [if_pos h12]
      rw [atT_app h (by omega), atT_app h (by omega)]
    · simp only [if_neg h12]
      by_cases h9 : t = 9 ∨ t = 10 ∨ t = 11
      · simp only [if_pos h9]
        rw [atT_app h (by omega), atT_app h (by omega)]
      · simp only [if_neg h9]
theorem zero_fits : Pv.zero.fits := ⟨by unfold I64; decide, by decide, by decide, by decide, by decide, by decide⟩
theorem atT_fits {T : List Pv} (h : ∀ v ∈ T, v.fits) (t i : Int) : ((atT T t i).getD Pv.zero).fits := by
  cases hx : atT T t i with
  | none => exact zero_fits
  | some x => exact h x (atT_mem hx).1
theorem madeV_fits {T : List Pv} (h : ∀ v ∈ T, v.fits) {t : Int} (ht : I64 t) (a b : Int) : (madeV T t a b).1.fits := by
  have e := atT_fits h
  have z := zero_fits
  unfold Pv.fits at *
  unfold madeV
  split
  · exact ⟨ht, by simp, (e 1 a).2.2.1, by simp, by simp, by simp⟩
  · split
    · exact ⟨ht, by simp, by simp, by simp, (e 1 a).2.2.1, (e 1 b).2.2.1⟩
    · split
      · exact ⟨ht, by simp, by simp, (e 7 a).2.2.1, (e 12 b).2.2.2.2.1, (e 12 b).2.2.2.2.2⟩
      · exact ⟨ht, by dsimp only; omega, by simp, by simp, by simp, by simp⟩
/-- What the closure finds in a column. -/
def ColAt (w : World) (B : Nat) (v : Value) (j : Nat) (x : Int) : Prop := (v = .slice none 0 0 ∧ x = 0) ∨ ∃ A c xs, v = .slice A xs.length c ∧ Ints w A c xs ∧ xs[j]? = some x ∧ ∀ g o, A = some ⟨g, o, none⟩ → B ≤ g
theorem ColAt.mid {w w' : World} {B : Nat} {v : Value} {j : Nat} {x : Int} (h : ColAt w B v j x) (hs : w.heap.size ≤ w'.heap.size) (hm : ∀ g, B ≤ g → g < w.heap.size → w'.heap[g]? = w.heap[g]?) : ColAt w' B v j x := by
  rcases h with h | ⟨A, c, xs, e, hI, hx, hA⟩
  · exact .inl h
  · exact .inr ⟨A, c, xs, e, ⟨hI.1, fun hp => by
      obtain ⟨g, o, e2, hg, hc⟩ := hI.2 hp
      exact ⟨g, o, e2, Nat.lt_of_lt_of_le hg hs, fun k y hy => (World.cell?_of_block (hm g (hA g o e2) hg)).trans (hc k y hy)⟩⟩, hx, hA⟩
theorem ColAt.grow {w w' : World} {B : Nat} {v : Value} {j : Nat} {x : Int} (h : ColAt w B v j x) (k : Below w.heap.size w w') : ColAt w' B v j x := h.mid k.size fun g _ hg => k.block g hg
theorem Gr.below {w : World} (g : Gr w) : Below w.heap.size w g.1 := g.2
set_option maxRecDepth 100000 in
theorem rat_any (B : Nat) (v : Value) (j : Nat) (x : Int) (w : World) (h : ColAt w B v j x) : Calls Tryz.prog 63 #[v, .int .i64 j] w fun e w' => e = .returned (.int .i64 x) ∧ w' = w := by
  rcases h with ⟨rfl, rfl⟩ | ⟨A, c, xs, rfl, hI, hx, _⟩
  · skip
    have qn : ∀ (w : World) (a : Option Addr) (n c : Nat), (binOp .eql 72 (.slice a n c) (.slice none 0 0)).run Tryz.prog w = .ok (.bool a.isNone) w := fun w a n c => Lib.run_eql_slice_nil w _ _ a n c 0 0 Tryz.underlying72
    go_enter Tryz.func63, Tryz.ntmps63
    go_wp2
    go_ret
    exact ⟨rfl, rfl⟩
  · obtain ⟨hj, rfl⟩ := List.getElem?_eq_some_iff.1 hx
    obtain ⟨g, o, y, rfl, hg, hy, hc⟩ := hI.at_ hj
    rw [hx] at hy
    cases hy
    have p1 : decide ((j : Int) < (xs.length : Int)) = true := decide_eq_true (by omega)
    have qn : ∀ (w : World) (a : Option Addr) (n c : Nat), (binOp .eql 72 (.slice a n c) (.slice none 0 0)).run Tryz.prog w = .ok (.bool a.isNone) w := fun w a n c => Lib.run_eql_slice_nil w _ _ a n c 0 0 Tryz.underlying72
    clear hx hI
    go_enter Tryz.func63, Tryz.ntmps63
    go_wp2
    go_ret
    exact ⟨rfl, rfl⟩
theorem rat_grow (B : Nat) (v : Value) (j : Nat) (x : Int) (w : World) (h : ColAt w B v j x) : Calls Tryz.prog 63 #[v, .int .i64 j] w fun e w' => e = .returned (.int .i64 x) ∧ Below w.heap.size w w' :=
  (rat_any B v j x w h).mono fun _ _ ⟨h1, h2⟩ => ⟨h1, by rw [h2]; exact Below.refl _ _⟩
end Go.Proofs.YtkdamaomhppkgaaGreat

/- Plain facts of layer 27 for reading, and the cursor's bytes beyond the end. -/
namespace Go.Proofs.YtkdamaomhppkgaaGreat
open Go.RowKit Pp

theorem wdq_in {l : List Int} (h : ∀ v ∈ l, -2147483648 ≤ v ∧ v < 4294967296) (i : Nat) : -2147483648 ≤ l.getD i 0 ∧ l.getD i 0 < 4294967296 := by
  rw [List.getD_eq_getElem?_getD]
  cases hi : l[i]? with
  | none => simp
  | some v => exact h v (List.mem_of_getElem? hi)
theorem trio_in {m n : Nat} {L : List UInt8} {q : List Int × List UInt8} (h : trio m n L = .ok q) : ∀ v ∈ q.1, -2147483648 ≤ v ∧ v < 4294967296 := by
  unfold trio at h
  cases g1 : nextR m L with
  | error e => rw [g1] at h; cases h
  | ok p1 =>
    obtain ⟨fs, r1⟩ := p1
    rw [g1] at h
    dsimp only at h
    cases g2 : nextR n r1 with
    | error e => rw [g2] at h; cases h
    | ok p2 =>
      obtain ⟨ts, r2⟩ := p2
      rw [g2] at h
      dsimp only at h
      cases g3 : nextR (ts.count 0) r2 with
      | error e => rw [g3] at h; cases h
      | ok p3 =>
        obtain ⟨rs, r3⟩ := p3
        rw [g3] at h
        dsimp only at h
        split at h
        · rename_i he
          cases h
          intro v hv
          unfold Po.out at hv
          rw [if_pos he] at hv
          unfold Po.rowN at hv
          obtain ⟨j, _, rfl⟩ := List.mem_map.1 hv
          unfold Po.el
          split
          · exact wdq_in (nextR_facts g1).2.2 _
          · exact wdq_in (nextR_facts g3).2.2 _
        · cases h
theorem band_in {n : Nat} {L : List UInt8} {q : List Int × List UInt8} (h : bandR n L = .ok q) : ∀ v ∈ q.1, -2147483648 ≤ v ∧ v < 4294967296 := by
  cases L with
  | nil => cases h
  | cons k r =>
    by_cases hk : k = 255
    · subst hk
      rw [bandR_join] at h
      cases r with
      | nil => cases h
      | cons m r =>
        by_cases hm : m.toNat < 1 ∨ 15 < m.toNat
        · rw [joinR_bad hm] at h; cases h
        · rw [joinR_trio hm] at h
          exact trio_in h
    · rw [bandR_cons hk] at h
      exact (plainR_facts h).2.2
/-- What a band's call has told: the numbers, or a reason. -/
theorem outc_band {k : Int} {L r : List UInt8} {vs : List Int} (h : Outc (bandN k L) [] vs 0 r) : bandN k L = .ok (vs, r) ∧ 0 ≤ k ∧ (vs.length : Int) = k ∧ vs.length ≤ L.length ∧ ∀ v ∈ vs, -2147483648 ≤ v ∧ v < 4294967296 := by
  unfold bandN at h ⊢
  split at h
  · exact absurd h.1.symm h.2.1
  · rename_i hk
    rw [if_neg hk]
    cases g : bandR k.toNat L with
    | error e => rw [g] at h; exact absurd h.1.symm h.2.1
    | ok q =>
      rw [g] at h
      obtain ⟨_, rfl, rfl⟩ := h
      obtain ⟨h1, j, h2, h3, _⟩ := bandR_facts g
      exact ⟨rfl, by omega, by omega, by omega, band_in g⟩
theorem outc_err {α : Type} {o : Except Int (α × List UInt8)} {d v : α} {e : Int} {r : List UInt8} (h : Outc o d v e r) (he : e ≠ 0) : o = .error e ∧ v = d := by
  cases o with
  | error q => obtain ⟨rfl, _, rfl⟩ := h; exact ⟨rfl, rfl⟩
  | ok p => exact absurd h.1 he
/-- Texts that are there already, ahead of what is read. -/
def preW (acc : List (List UInt8)) : Except Int (List (List UInt8) × List UInt8) → Except Int (List (List UInt8) × List UInt8)
  | .error e => .error e
  | .ok (l, r) => .ok (acc ++ l, r)
theorem preW_nil (o : Except Int (List (List UInt8) × List UInt8)) : preW [] o = o := by
  cases o with
  | error e => rfl
  | ok q => rfl
theorem wgo_nil (most : Int) (f : Bool) (W : List UInt8) (S : Int) (ms : List Int) (r : List UInt8) : wGo most f W S [] ms r = .ok ([], r) := by unfold wGo; rfl
section
variable {most : Int} {f : Bool} {W : List UInt8} {S n m : Int} {ns ms : List Int} {r : List UInt8}
theorem wgo_bad (h : n < 0 ∨ (W.length : Int) < n ∨ m < 0) : wGo most f W S (n :: ns) (m :: ms) r = .error 2 := by
  conv => lhs; unfold wGo
  rw [if_pos h]
theorem wgo_most (h : ¬ (n < 0 ∨ (W.length : Int) < n ∨ m < 0)) (h2 : most < S + (n + m)) : wGo most f W S (n :: ns) (m :: ms) r = .error 3 := by
  conv => lhs; unfold wGo
  rw [if_neg h, if_pos h2]
theorem wgo_end (h : ¬ (n < 0 ∨ (W.length : Int) < n ∨ m < 0)) (h2 : ¬ most < S + (n + m)) (h3 : (r.length : Int) < m) : wGo most f W S (n :: ns) (m :: ms) r = .error 6 := by
  conv => lhs; unfold wGo
  rw [if_neg h, if_neg h2, if_pos h3]
theorem wgo_low (h : ¬ (n < 0 ∨ (W.length : Int) < n ∨ m < 0)) (h2 : ¬ most < S + (n + m)) (h3 : ¬ (r.length : Int) < m) (h4 : f = false ∧ ¬ W < W.take n.toNat ++ r.take m.toNat) : wGo most f W S (n :: ns) (m :: ms) r = .error 2 := by
  conv => lhs; unfold wGo
  rw [if_neg h, if_neg h2, if_neg h3, if_pos h4]
theorem wgo_ok (acc : List (List UInt8)) (h : ¬ (n < 0 ∨ (W.length : Int) < n ∨ m < 0)) (h2 : ¬ most < S + (n + m)) (h3 : ¬ (r.length : Int) < m) (h4 : ¬ (f = false ∧ ¬ W < W.take n.toNat ++ r.take m.toNat)) :
    preW acc (wGo most f W S (n :: ns) (m :: ms) r) = preW (acc ++ [W.take n.toNat ++ r.take m.toNat]) (wGo most false (W.take n.toNat ++ r.take m.toNat) (S + (n + m)) ns ms (r.drop m.toNat)) := by
  conv => lhs; unfold wGo
  rw [if_neg h, if_neg h2, if_neg h3, if_neg h4]
  cases wGo most false (W.take n.toNat ++ r.take m.toNat) (S + (n + m)) ns ms (r.drop m.toNat) with
  | error e => rfl
  | ok q =>
    obtain ⟨a, c⟩ := q
    simp [preW]
end
section
variable {x : World} {b : Nat} {A : Option Addr} {c : Nat} {l : List UInt8} {n : Nat}
theorem ctake_end (h : CurS x b A c l n 0) {k : Nat} (hk : l.length - n < k) : Calls Tryz.prog 59 #[.pointer (some ⟨b, 0, none⟩), .int .i64 k] x fun ex y => (∃ u, ex = .returned u ∧ BRow y x.heap.size 5 u []) ∧ CurS y b A c l n 6 ∧ x.grownBy y (some b) := by
  have HN := Lib.hid (cnext_end h hk)
  clear h
  go_enter Tryz.func59, Tryz.ntmps59
  go_wp2_with fail
  refine HN.out.mono ?_
  rintro ex y ⟨rfl, h1, hg⟩
  have HC := Lib.hid (bclone_any none 0 [] y (BAt.nil _ _ _) (by simp) (fun _ => rfl))
  have H1 := Lib.hid h1
  have G1 := Lib.hid hg
  clear h1 hg
  go_wp2_with fail
  refine HC.out.mono ?_
  rintro ex z ⟨u, rfl, hr, hb⟩
  have HR := Lib.hid hr
  have HB := Lib.hid hb
  clear hr hb
  go_wp2_with fail
  go_ret
  exact ⟨⟨u, rfl, brow_lower HR.out G1.out.size⟩, H1.out.grow HB.out, grownBy_trans G1.out (grownBy_below HB.out none) (.inr fun g e => by cases e)⟩
end
theorem wd_to (s : List UInt8) (k : Nat) (hk : k ≤ s.length) (w : World) : (Instr.slice 9 (.string (bs s)) none (some (.int .i64 (k : Nat))) none).run Tryz.prog w = .ok (.string (bs (s.take k))) w := by
  have hz := bs_size s
  rw [run_slice_string_to_if w 9 (bs s) .i64 k (by kernel_rfl), if_pos (by omega), bs_extract, Int.toNat_natCast, List.drop_zero, Nat.sub_zero]
theorem wd_leq (W q : List UInt8) : (Op.bytesLess (bs q).toList (bs W).toList || (bs q).toList == (bs W).toList) = !decide (W < q) := by
  rw [wd_less, bs_beq]
  by_cases h : W < q
  · have h1 : ¬ q < W := fun h2 => Wo.lt_irrefl W (List.lt_trans h h2)
    have h2 : ¬ q = W := fun e => by rw [e] at h; exact Wo.lt_irrefl W h
    simp [h, h1, h2]
  · rcases List.le_iff_lt_or_eq.1 (List.not_lt.1 h) with h1 | h1
    · simp [h, h1]
    · simp [h1]
theorem wd_add (a q : List UInt8) (ha : a.length ≤ 1000000) (hq : q.length ≤ 1000000) (w : World) : (Op.stringOp .add (bs a) (bs q)).run Tryz.prog w = .ok (.string (bs (a ++ q))) w := by
  have h1 := bs_size a
  have h2 := bs_size q
  rw [run_string_add w _ _ (by omega) (by omega), bs_append]
theorem make_texts (w : World) (n : Nat) (hn : n ≤ 1000000) : ∃ w', (Instr.makeSlice 66 (.int .i64 0) (.int .i64 (n : Int))).run Tryz.prog w = .ok (.slice (some ⟨w.heap.size, 0, none⟩) 0 n) w' ∧ TRow w' w.heap.size (.slice (some ⟨w.heap.size, 0, none⟩) 0 n) [] ∧ Below w.heap.size w w' ∧ w'.heap.size = w.heap.size + 1 := by
  obtain ⟨i0, hi, hz0, hz1, hz2⟩ := info_parts infoStr
  have hr := run_make (P := Tryz.prog) w 66 9 i0 _ Tryz.underlying66 hi hz0 .i64 .i64 0 (n : Int) (Int.le_refl _) (by omega) (by rw [hz2]; omega) (by omega)
  simp only [Int.toNat_zero, Int.toNat_natCast] at hr
  refine ⟨_, hr, ?_, (Below.refl _ _).alloc (Nat.le_refl _) _, by simp⟩
  have := World.ownsRow_made (base := w.heap.size) (e := 9) (size := 1) w (madeCells (Value.string ⟨#[]⟩).cells (n * i0.size)) n (Nat.le_refl _) (by unfold maxLen; omega) (by rw [hz1]; exact size_madeCells _ _)
  exact this
end Go.Proofs.YtkdamaomhppkgaaGreat

/- Layer 28 plain: what the columns tell as they are read, and the values one by one. -/
namespace Go.Proofs.YtkdamaomhppkgaaGreat
open Go.RowKit Pp

theorem outc_er1 {α : Type} {o : Except Int (α × List UInt8)} {d v : α} {e : Int} {r : List UInt8} (h : Outc o d v e r) (he : e ≠ 0) : o = .error e := by
  unfold Outc at h
  cases o with
  | ok p => exact absurd h.1 he
  | error e' => rw [h.1]
/-- How far the columns are read. -/
def ColSt (t k : Int) (l : List UInt8) (p i : Nat) (va vb : Value) (la lb : List Int) (q : Nat) (e : Int) : Prop :=
  (i = firstT t ∧ va = .slice none 0 0 ∧ vb = .slice none 0 0 ∧ q = p ∧ e = 0) ∨
  (i = 1 ∧ firstT t = 0 ∧ vb = .slice none 0 0 ∧ Outc (bandN k (l.drop p)) [] la e (l.drop q)) ∨
  (i = 2 ∧ firstT t = 1 ∧ va = .slice none 0 0 ∧ Outc (bandN k (l.drop p)) [] lb e (l.drop q)) ∨
  (i = 2 ∧ firstT t = 0 ∧ ∃ q1 e1, Outc (bandN k (l.drop p)) [] la e1 (l.drop q1) ∧ (e1 = 0 → Outc (bandN k (l.drop q1)) [] lb e (l.drop q)) ∧ (e1 ≠ 0 → lb = [] ∧ e = e1))
theorem first_two (t : Int) : firstT t = 0 ∨ firstT t = 1 := by unfold firstT; split <;> simp
section
variable {t k : Int} {l : List UInt8} {p i q q' : Nat} {va vb u : Value} {la lb vs : List Int} {e e' : Int}
theorem ColSt.next0 (h : ColSt t k l p 0 va vb la lb q e) (h1 : e = 0 → Outc (bandN k (l.drop q)) [] vs e' (l.drop q')) : ColSt t k l p 1 u vb vs lb q' e' := by
  rcases h with ⟨h2, h3, h4, rfl, rfl⟩ | ⟨h2, _⟩ | ⟨h2, _⟩ | ⟨h2, _⟩
  · exact .inr (.inl ⟨rfl, h2.symm, h4, h1 rfl⟩)
  all_goals omega
theorem ColSt.next1 (h : ColSt t k l p 1 va vb la lb q e) (h1 : e = 0 → Outc (bandN k (l.drop q)) [] vs e' (l.drop q')) (h2 : e ≠ 0 → vs = [] ∧ e' = e) : ColSt t k l p 2 va u la vs q' e' := by
  rcases h with ⟨h3, h4, h5, rfl, rfl⟩ | ⟨_, h3, h4, h5⟩ | ⟨h3, _⟩ | ⟨h3, _⟩
  · exact .inr (.inr (.inl ⟨rfl, h3.symm, h4, h1 rfl⟩))
  · exact .inr (.inr (.inr ⟨rfl, h3, q, e, h5, h1, h2⟩))
  all_goals omega
theorem ColSt.err (h : ColSt t k l p (lastT t) va vb la lb q e) (he : e ≠ 0) : colsR t k (l.drop p) = .error e := by
  unfold colsR
  unfold ColSt lastT firstT at h
  by_cases h3 : t = 3 ∨ t = 4
  · rw [if_pos h3]
    rw [if_neg (show ¬ (t = 7 ∨ t = 8) by omega), if_pos h3] at h
    rcases h with h | h | h | h
    · exact absurd h.2.2.2.2 he
    · omega
    · rw [outc_er1 h.2.2.2 he]
    · omega
  · rw [if_neg h3]
    rw [if_neg h3] at h
    by_cases h7 : t = 7 ∨ t = 8
    · rw [if_pos h7]
      rw [if_pos h7] at h
      rcases h with h | h | h | h
      · exact absurd h.2.2.2.2 he
      · rw [outc_er1 h.2.2.2 he]
      · omega
      · omega
    · rw [if_neg h7]
      rw [if_neg h7] at h
      rcases h with h | h | h | ⟨_, _, q1, e1, h4, h5, h6⟩
      · omega
      · omega
      · omega
      · by_cases h1 : e1 = 0
        · subst h1
          obtain ⟨hb, _⟩ := outc_band h4
          rw [hb]
          dsimp only
          rw [outc_er1 (h5 rfl) he]
        · rw [outc_er1 h4 h1, (h6 h1).2]
theorem colAt_in {w : World} {v : Value} {base : Nat} {xs : List Int} (h : IRead w base v xs) {j : Nat} {x : Int} (hx : xs[j]? = some x) : ColAt w base v j x := by
  obtain ⟨A, c, rfl, hI, hA⟩ := h
  exact .inr ⟨A, c, xs, rfl, hI, hx, hA⟩
theorem ColSt.ok (h : ColSt t k l p (lastT t) va vb la lb q 0) {w : World} {base : Nat} (ha : IRead w base va la) (hb : IRead w base vb lb) :
    ∃ cs, colsR t k (l.drop p) = .ok (cs, l.drop q) ∧ 0 ≤ k ∧ (cs.length : Int) = k ∧ ∀ (j : Nat) c, cs[j]? = some c → ColAt w base va j c.1 ∧ ColAt w base vb j c.2 := by
  unfold colsR
  unfold ColSt lastT firstT at h
  by_cases h3 : t = 3 ∨ t = 4
  · rw [if_pos h3]
    rw [if_neg (show ¬ (t = 7 ∨ t = 8) by omega), if_pos h3] at h
    rcases h with h | h | ⟨_, _, hva, h⟩ | h
    · omega
    · omega
    · obtain ⟨h1, h2, h4, _⟩ := outc_band h
      rw [h1]
      refine ⟨_, rfl, h2, by rw [List.length_map]; exact h4, fun j c hc => ?_⟩
      rw [List.getElem?_map] at hc
      cases hj : lb[j]? with
      | none => rw [hj] at hc; cases hc
      | some y =>
        rw [hj] at hc
        cases hc
        exact ⟨.inl ⟨hva, rfl⟩, colAt_in hb hj⟩
    · omega
  · rw [if_neg h3]
    rw [if_neg h3] at h
    by_cases h7 : t = 7 ∨ t = 8
    · rw [if_pos h7]
      rw [if_pos h7] at h
      rcases h with h | ⟨_, _, hvb, h⟩ | h | h
      · omega
      · obtain ⟨h1, h2, h4, _⟩ := outc_band h
        rw [h1]
        refine ⟨_, rfl, h2, by rw [List.length_map]; exact h4, fun j c hc => ?_⟩
        rw [List.getElem?_map] at hc
        cases hj : la[j]? with
        | none => rw [hj] at hc; cases hc
        | some y =>
          rw [hj] at hc
          cases hc
          exact ⟨colAt_in ha hj, .inl ⟨hvb, rfl⟩⟩
      · omega
      · omega
    · rw [if_neg h7]
      rw [if_neg h7] at h
      rcases h with h | h | h | ⟨_, _, q1, e1, h4, h5, h6⟩
      · omega
      · omega
      · omega
      · have h1 : e1 = 0 := by
          by_cases h1 : e1 = 0
          · exact h1
          · exact absurd (h6 h1).2.symm h1
        subst h1
        obtain ⟨b1, b2, b3, _⟩ := outc_band h4
        obtain ⟨d1, _, d3, _⟩ := outc_band (h5 rfl)
        rw [b1]
        dsimp only
        rw [d1]
        refine ⟨_, rfl, b2, by rw [List.length_zip]; omega, fun j c hc => ?_⟩
        rw [List.getElem?_zip_eq_some] at hc
        exact ⟨colAt_in ha hc.1, colAt_in hb hc.2⟩
end
def preG (acc : List Pv) : Except Int (List Pv) → Except Int (List Pv)
  | .ok L => .ok (acc ++ L)
  | .error e => .error e
section
variable {T acc : List Pv} {t : Int} {f : Bool} {p v : Pv} {cs : List (Int × Int)} {i : Nat} {c : Int × Int}
theorem rg_none (hc : cs[i]? = some c) (hm : madeT T t c.1 c.2 = none) : preG acc (rowGo T t f p (cs.drop i)) = .error 5 := by
  obtain ⟨h1, rfl⟩ := List.getElem?_eq_some_iff.1 hc
  rw [List.drop_eq_getElem_cons h1]
  unfold rowGo
  rw [hm]
  rfl
theorem rg_low (hc : cs[i]? = some c) (hm : madeT T t c.1 c.2 = some v) (h : f = false ∧ ¬ Pv.lt p v) : preG acc (rowGo T t f p (cs.drop i)) = .error 2 := by
  obtain ⟨h1, rfl⟩ := List.getElem?_eq_some_iff.1 hc
  rw [List.drop_eq_getElem_cons h1]
  unfold rowGo
  rw [hm]
  dsimp only
  rw [if_pos h]
  rfl
theorem rg_ok (hc : cs[i]? = some c) (hm : madeT T t c.1 c.2 = some v) (h : ¬ (f = false ∧ ¬ Pv.lt p v)) : preG (acc ++ [v]) (rowGo T t false v (cs.drop (i + 1))) = preG acc (rowGo T t f p (cs.drop i)) := by
  obtain ⟨h1, rfl⟩ := List.getElem?_eq_some_iff.1 hc
  rw [List.drop_eq_getElem_cons h1]
  conv => rhs; unfold rowGo
  rw [hm]
  dsimp only
  rw [if_neg h]
  cases rowGo T t false v (cs.drop (i + 1)) with
  | error e => rfl
  | ok L => simp [preG]
theorem rg_end (hc : cs.length ≤ i) : preG acc (rowGo T t f p (cs.drop i)) = .ok acc := by
  rw [List.drop_eq_nil_of_le hc]
  unfold rowGo
  simp [preG]
theorem preG_nil (o : Except Int (List Pv)) : preG [] o = o := by cases o <;> rfl
end
theorem rowR_err {T : List Pv} {t k : Int} {r : List UInt8} {e : Int} (h : colsR t k r = .error e) : rowR T t k r = .error e := by unfold rowR; rw [h]
theorem rowR_bad {T : List Pv} {t k : Int} {r r1 : List UInt8} {cs : List (Int × Int)} {e : Int} (h : colsR t k r = .ok (cs, r1)) (h2 : rowGo T t true Pv.zero cs = .error e) : rowR T t k r = .error e := by
  unfold rowR
  rw [h]
  dsimp only
  rw [h2]
theorem rowR_ok {T L : List Pv} {t k : Int} {r r1 : List UInt8} {cs : List (Int × Int)} (h : colsR t k r = .ok (cs, r1)) (h2 : rowGo T t true Pv.zero cs = .ok L) : rowR T t k r = .ok (L, r1) := by
  unfold rowR
  rw [h]
  dsimp only
  rw [h2]
theorem snoc_lt {acc : List Pv} (h : acc.Pairwise Pv.lt) {p v : Pv} {i : Nat} (hi : acc.length = i) (h2 : 0 < i → acc[i - 1]? = some p) (h3 : 0 < i → Pv.lt p v) : ∀ a ∈ acc, Pv.lt a v := fun a ha => by
  obtain ⟨j, hj, rfl⟩ := List.getElem_of_mem ha
  have hp := h2 (by omega)
  have hl := h3 (by omega)
  by_cases e : j = i - 1
  · subst e
    rw [List.getElem?_eq_getElem hj] at hp
    cases hp
    exact hl
  · obtain ⟨hk, hp⟩ := List.getElem?_eq_some_iff.1 hp
    have := List.pairwise_iff_getElem.1 h j (i - 1) hj hk (by omega)
    rw [hp] at this
    exact Pv.lin.trans _ _ _ this hl
theorem pairwise_snoc {acc : List Pv} (h : acc.Pairwise Pv.lt) {v : Pv} (h2 : ∀ a ∈ acc, Pv.lt a v) : (acc ++ [v]).Pairwise Pv.lt := by
  rw [List.pairwise_append]
  exact ⟨h, List.pairwise_singleton _ _, fun a ha b hb => by rw [List.mem_singleton.1 hb]; exact h2 a ha⟩
theorem IRead.cur {w w' : World} {B g : Nat} {u : Value} {vs : List Int} (h : IRead w B u vs) (k : w.grownBy w' (some g)) (hb : g < B) : IRead w' B u vs := by
  obtain ⟨A, c, rfl, hI, hA⟩ := h
  exact ⟨A, c, rfl, hI.kept k (fun g' o e e2 => by have := hA g' o e; have := Option.some.inj e2; omega), hA⟩
theorem set_turned {w : World} {b : Nat} {cs : Array Value} {t : TypeId} {fr : Nat × Nat} (h : w.heap[b]? = some (.cells cs t fr)) (k : Nat) (v : Value) : w.grownBy (w.setCell ⟨b, k, none⟩ v) (some b) := by
  rw [setCell_eq_setRow w b k cs t fr v h]
  exact ⟨rfl, rfl, rfl, by simp, fun j _ hne => setRow_other w b j _ (fun hh => hne (by rw [hh]))⟩
theorem TabS.off {x y : World} {base b m n g : Nat} {us : Nat → Value} {R : Nat → List Pv} {f : Pv → Int} {S : Pv → Bool} (h : TabS x base b m n us R f S) (k : x.grownBy y (some g)) (hb : b ≠ g) (hm : m ≠ g) (hu : ∀ s j, s < 13 → (us s).ownBlock = some j → j ≠ g) : TabS y base b m n us R f S :=
  ⟨h.box.kept k (fun e => hb (Option.some.inj e)), fun t ht => (h.rows t ht).kept k (fun j hj e => hu t j ht hj (Option.some.inj e).symm), h.apart, h.num.kept k (fun e => hm (Option.some.inj e)), h.hb, h.hm⟩
theorem setCell_arr {w : World} {b k : Nat} {cs : Array Value} {t : TypeId} {fr : Nat × Nat} (h : w.heap[b]? = some (.cells cs t fr)) (v : Value) (cs' : Array Value) (he : cs.setIfInBounds k v = cs') : (w.setCell ⟨b, k, none⟩ v).heap[b]? = some (.cells cs' t fr) := by
  simp [World.setCell, Array.getElem?_modify, h, ← he]
/-- All blocks of a world are as they were, but the table's own and the cursor's. -/
def Fr (us : Nat → Value) (b m b2 : Nat) (w w' : World) : Prop := w.heap.size ≤ w'.heap.size ∧ ∀ j, j < w.heap.size → j ≠ b → j ≠ m → j ≠ b2 → (∀ s, s < 13 → (us s).ownBlock ≠ some j) → w'.heap[j]? = w.heap[j]?
section
variable {us : Nat → Value} {b m b2 : Nat} {w w1 w2 : World}
theorem Fr.of (h : But w.heap.size b2 w w1) : Fr us b m b2 w w1 := ⟨h.size, fun j hj _ _ hn _ => h.block j hj hn⟩
theorem Fr.below (h : Fr us b m b2 w w1) (k : Below w1.heap.size w1 w2) : Fr us b m b2 w w2 := ⟨Nat.le_trans h.1 k.size, fun j hj h1 h2 h3 h4 => (k.block j (Nat.lt_of_lt_of_le hj h.1)).trans (h.2 j hj h1 h2 h3 h4)⟩
theorem Fr.cur (h : Fr us b m b2 w w1) (k : w1.grownBy w2 (some b2)) : Fr us b m b2 w w2 := ⟨Nat.le_trans h.1 k.size, fun j hj h1 h2 h3 h4 => (k.block j (Nat.lt_of_lt_of_le hj h.1) (fun e => h3 (Option.some.inj e))).trans (h.2 j hj h1 h2 h3 h4)⟩
end
/-- What the call comes to. -/
def RowR8 (us : Nat → Value) (base b m b2 : Nat) (A : Option Addr) (c : Nat) (l : List UInt8) (t k : Int) (T : List Pv) (p : Nat) (w : World) (ex : Ending) (w' : World) : Prop :=
  ex = .returned (.tuple #[]) ∧ ∃ p' e', CurS w' b2 A c l p' e' ∧ But base b2 w w' ∧ Fr us b m b2 w w' ∧
    ((e' ≠ 0 ∧ rowR T t k (l.drop p) = .error e') ∨
     (e' = 0 ∧ ∃ L us' n, rowR T t k (l.drop p) = .ok (L, l.drop p') ∧ TabOf w' base b m n us' (T ++ L) ∧ n ≤ (T ++ L).length ∧ (∀ v ∈ T ++ L, v.fits) ∧ ∀ s j, s < 13 → (us' s).ownBlock = some j → (∃ s', s' < 13 ∧ (us s').ownBlock = some j) ∨ w.heap.size ≤ j))
end Go.Proofs.YtkdamaomhppkgaaGreat

/- Regions that draw their order: a head whose operations are quiet in the class 'all that stood is as it was', then a tail in one forced order. No program. -/
namespace Go.Proofs.YtkdamaomhppkgaaGreat
open Go.RowKit

section
variable {P : Program} {ops : Array Oper} {md : Region.Mode} {C : World → Prop}
/-- Whatever order is picked for the next 'f' operations: each is one of the first n, and quiet; behind them 'L'. -/
def headAny (P : Program) (md : Region.Mode) (ops : Array Oper) (C : World → Prop) (n : Nat) (L : Array Bool → Act → Prop) : Nat → Array Bool → Act → Prop
  | 0, listed, a => L listed a
  | f + 1, listed, a => Region.ready md ops listed ≠ [] ∧ ∀ i ∈ Region.ready md ops listed, i < n ∧ qOp P ops C i (headAny P md ops C n L f (listed.setIfInBounds i true)) a

theorem wpAny_of_headAny {n g : Nat} {L : Array Bool → Act → Prop} {Q : Exit → Act → World → Prop} (hL : ∀ listed a w, C w → L listed a → wpAny P md ops Q g listed a w) :
    ∀ (f : Nat) (listed : Array Bool) (a : Act) (w : World), C w → headAny P md ops C n L f listed a → wpAny P md ops Q (f + g) listed a w
  | 0, listed, a, w, hw, h => by rw [Nat.zero_add]; exact hL _ _ _ hw h
  | f + 1, listed, a, w, hw, h => by
    have e : f + 1 + g = (f + g) + 1 := by omega
    rw [e]
    exact ⟨fun h0 => absurd h0 h.1, fun i hi => wpOp_of_qOp hw (fun a' w' hw' h' => wpAny_of_headAny hL f _ a' w' hw' h') (h.2 i hi).2⟩

/-- An operation of the head that may come up may be taken first. -/
theorem headAny_first {n i : Nat} {oi : Oper} {v : Value} {L : Array Bool → Act → Prop} (hi : ops[i]? = some oi) (hsel : ∀ (j : Nat) (o : Oper) cs b, ops[j]? = some o → o.op ≠ .select cs b)
    (hs : Region.sinkB md ops n = true) (hc : Region.chainB md ops n = true) (hn : n < ops.size) (hin : i < n)
    (hdone : ∀ listed a, L listed a → ∀ j ∈ Region.ready md ops listed, n ≤ j) (f : Nat) :
    ∀ (listed : Array Bool) (a : Act), HeadInv md ops n listed →
      (∀ j oj, ops[j]? = some oj → j ≠ i → listed.getD j true = false → (∀ e ∈ oj.after, Region.binds md e = true → e.on ≠ i) → oi.apart ops oj = true) →
      i ∈ Region.ready md ops listed → YieldsIn P ops C oi v a →
      headAny P md ops C n L f (listed.setIfInBounds i true) (a.put oi.dst v) → headAny P md ops C n L (f + 1) listed a := by
  induction f with
  | zero =>
    intro listed a inv _ hr hy H
    refine ⟨fun h => (by rw [h] at hr; cases hr), fun j hj => ?_⟩
    have hjn : j < n := Nat.lt_of_not_le fun h => tail_waits hs hc hn inv _ i rfl hin (mem_ready.1 hr).1 j h hj
    refine ⟨hjn, ?_⟩
    by_cases hji : j = i
    · subst hji
      exact hy.qOp hi H
    · have := hdone _ _ H j (ready_mono hj hji)
      omega
  | succ f ih =>
    intro listed a inv hfree hr hy H
    refine ⟨fun h => (by rw [h] at hr; cases hr), fun j hj => ?_⟩
    have hjn : j < n := Nat.lt_of_not_le fun h => tail_waits hs hc hn inv _ i rfl hin (mem_ready.1 hr).1 j h hj
    refine ⟨hjn, ?_⟩
    by_cases hji : j = i
    · subst hji
      exact hy.qOp hi H
    · obtain ⟨hjun, oj, hoj, hall⟩ := mem_ready.1 hj
      have hun := (mem_ready.1 hr).1
      have hap : oi.apart ops oj = true := hfree j oj hoj hji hjun fun e he hb heq => by
        have h1 := hall e he hb
        rw [heq, getD_both hun] at h1
        cases h1
      have h2 := qOp_put hoj hap (fun cs b => hsel i oi cs b hi) (fun cs b => hsel j oj cs b hoj) hy (H.2 j (ready_mono hj hji)).2
      refine qOp_mono (fun a' h3 => ih (listed.setIfInBounds j true) a' (inv.set hj hjn) (fun k ok hk hki hkun hno => ?_) (ready_mono hr (Ne.symm hji)) h3.1 ?_) h2
      · refine hfree k ok hk hki ?_ hno
        by_cases hjk : j = k
        · subst hjk
          exact hjun
        · rwa [getD_set_ne true hjk] at hkun
      · rw [Array.setIfInBounds_comm _ _ hji]
        exact h3.2

theorem headAny_lex {n g : Nat} {Lq : Act → Prop} (hsel : Region.noSelect ops = true) (hs : Region.sinkB md ops n = true) (hc : Region.chainB md ops n = true) (hn : n < ops.size) :
    ∀ (l : List Oper) (k : Nat) (listed : Array Bool) (a : Act), (∀ j, j < l.length → l[j]? = ops[k + j]?) → k + l.length = n → HeadInv md ops n listed →
    Region.lexHead md ops g l.length k listed = true → wpQuiet P ops C Lq l a →
    headAny P md ops C n (fun listed' a' => Region.seqB md ops g n listed' = true ∧ Lq a') l.length listed a
  | [], k, listed, a, _, hk, _, hB, h => by
    have hkn : k = n := by simpa using hk
    subst hkn
    exact ⟨by simpa [Region.lexHead] using hB, h⟩
  | o :: l, k, listed, a, hl, hk, inv, hB, h => by
    have h0 : ops[k]? = some o := by simpa using (hl 0 (by simp)).symm
    simp only [List.length_cons] at hk
    simp only [List.length_cons, Region.lexHead, Bool.and_eq_true] at hB
    have hr : k ∈ Region.ready md ops listed := by simpa using hB.1.1
    have hq : qOp P ops C k (wpQuiet P ops C Lq l) a := by unfold qOp; simp only [h0]; exact h
    obtain ⟨v, hy, hK⟩ := yieldsIn_of_qOp h0 hq
    refine headAny_first h0 (Region.noSelect_spec hsel) hs hc hn (by omega) (fun listed' a' hL => seqB_ready hL.1) l.length listed a inv (Region.free_spec h0 hB.1.2) hr hy ?_
    exact headAny_lex hsel hs hc hn l (k + 1) _ _ (fun j hj => by have := hl (j + 1) (by simp; omega); simpa [Nat.add_assoc, Nat.add_comm 1 j] using this) (by omega) (inv.set hr (by omega)) hB.2 hK

theorem wp_region_grow_tail {id : Nat} {Q : Exit → Act → World → Prop} {a : Act} {w : World} {l : List Oper} (n : Nat) (hm : P.follows .mixedOrders = true) (hB : Region.lexTailB .any l.toArray n = true)
    (h : wpQuiet P l.toArray (fun w' => ∃ g : Gr w, w' = g.1) (fun a' => ∀ g : Gr w, wpList P l.toArray Q (l.drop n) a' g.1) (l.take n) a) : (Code.region id l.toArray true).wp P Q a w := by
  simp only [Region.lexTailB, Bool.and_eq_true, decide_eq_true_eq] at hB
  obtain ⟨⟨⟨⟨hsel, hn⟩, hs⟩, hc⟩, hlex⟩ := hB
  have hn' : n < l.length := by simpa using hn
  have htl : (l.take n).length = n := by simp; omega
  have hdl : (l.drop n).length = l.toArray.size - n := by simp
  have inv0 : HeadInv .any l.toArray n (Array.replicate l.toArray.size false) :=
    ⟨by simp, fun j oj _ hl => (by rw [getD_replicate_false] at hl; cases hl), fun t _ ht => getD_in (by simpa using ht) (getD_replicate_false _ _)⟩
  have H := headAny_lex (md := .any) (g := l.toArray.size - n) hsel hs hc hn (l.take n) 0 _ a (fun j hj => by
    have hj' : j < n := by rw [htl] at hj; exact hj
    simp [hj']) (by simpa using htl) inv0 (by rw [htl]; exact hlex) h
  refine wp_region_any hm ?_
  have := wpAny_of_headAny (Q := Q) (g := l.toArray.size - n) (fun listed a' w' hw' hL => by
    obtain ⟨g, hg⟩ := hw'
    subst hg
    have := wpAny_of_seq (md := .any) (Q' := Q) (l.drop n) n listed a' g.1 (fun j => by simp [List.getElem?_drop]) (by rw [hdl]; exact hL.1) (hL.2 g)
    rwa [hdl] at this) _ _ _ w.drew ⟨⟨w.drew, (Below.refl _ _).drew⟩, rfl⟩ H
  rw [htl, show n + (l.toArray.size - n) = l.toArray.size by omega] at this
  exact this
/-- The same, where nothing but draws has come. -/
theorem wp_region_draw_tail {id : Nat} {Q : Exit → Act → World → Prop} {a : Act} {w : World} {l : List Oper} (n : Nat) (hm : P.follows .mixedOrders = true) (hB : Region.lexTailB .any l.toArray n = true)
    (h : wpQuiet P l.toArray (fun w' => ∃ q : Nat, w' = w.drewN q) (fun a' => ∀ q : Nat, wpList P l.toArray Q (l.drop n) a' (w.drewN q)) (l.take n) a) : (Code.region id l.toArray true).wp P Q a w := by
  simp only [Region.lexTailB, Bool.and_eq_true, decide_eq_true_eq] at hB
  obtain ⟨⟨⟨⟨hsel, hn⟩, hs⟩, hc⟩, hlex⟩ := hB
  have hn' : n < l.length := by simpa using hn
  have htl : (l.take n).length = n := by simp; omega
  have hdl : (l.drop n).length = l.toArray.size - n := by simp
  have inv0 : HeadInv .any l.toArray n (Array.replicate l.toArray.size false) :=
    ⟨by simp, fun j oj _ hl => (by rw [getD_replicate_false] at hl; cases hl), fun t _ ht => getD_in (by simpa using ht) (getD_replicate_false _ _)⟩
  have H := headAny_lex (md := .any) (g := l.toArray.size - n) hsel hs hc hn (l.take n) 0 _ a (fun j hj => by
    have hj' : j < n := by rw [htl] at hj; exact hj
    simp [hj']) (by simpa using htl) inv0 (by rw [htl]; exact hlex) h
  refine wp_region_any hm ?_
  have := wpAny_of_headAny (Q := Q) (g := l.toArray.size - n) (fun listed a' w' hw' hL => by
    obtain ⟨g, hg⟩ := hw'
    subst hg
    have := wpAny_of_seq (md := .any) (Q' := Q) (l.drop n) n listed a' (w.drewN g) (fun j => by simp [List.getElem?_drop]) (by rw [hdl]; exact hL.1) (hL.2 g)
    rwa [hdl] at this) _ _ _ w.drew ⟨1, rfl⟩ H
  rw [htl, show n + (l.toArray.size - n) = l.toArray.size by omega] at this
  exact this
end
end Go.Proofs.YtkdamaomhppkgaaGreat

/- The walks of layer 16: values held against each other. -/
namespace Go.Proofs.YtkdamaomhppkgaaGreat
open Go.RowKit

theorem nanI_any (x : Int) (w : World) : Calls Tryz.prog 73 #[.int .i64 x] w fun e w' => e = .returned (.bool false) ∧ w = w' := by
  go_enter Tryz.func73, Tryz.ntmps73
  go_wp2
  go_ret
  exact ⟨rfl, rfl⟩
theorem nanU_any (x : Int) (w : World) : Calls Tryz.prog 75 #[.int .u64 x] w fun e w' => e = .returned (.bool false) ∧ w = w' := by
  go_enter Tryz.func75, Tryz.ntmps75
  go_wp2
  go_ret
  exact ⟨rfl, rfl⟩
theorem nanS_any (x : List UInt8) (w : World) : Calls Tryz.prog 74 #[.string (bs x)] w fun e w' => e = .returned (.bool false) ∧ w = w' := by
  go_enter Tryz.func74, Tryz.ntmps74
  go_wp2
  go_ret
  exact ⟨rfl, rfl⟩
def c3 (lt gt : Bool) : Int := if lt then -1 else if gt then 1 else 0
set_option maxHeartbeats 1000000 in
theorem cmpI_any (x y : Int) (w : World) : Calls Tryz.prog 49 #[.int .i64 x, .int .i64 y] w fun e w' => e = .returned (.int .i64 (c3 (decide (x < y)) (decide (y < x)))) ∧ w = w' := by
  have H1 := Lib.hid (fun x w => nanI_any x w)
  by_cases h1 : x < y
  · have p1 : decide (x < y) = true := decide_eq_true h1
    clear h1
    go_enter Tryz.func49, Tryz.ntmps49
    go_wp2_with (first | (go_at_call 73; refine (H1.out _ _).mono ?_; rintro e w' ⟨rfl, rfl⟩))
    go_ret
    exact ⟨by rw [p1]; rfl, rfl⟩
  · have p1 : decide (x < y) = false := decide_eq_false h1
    by_cases h2 : y < x
    · have p2 : decide (y < x) = true := decide_eq_true h2
      clear h1 h2
      go_enter Tryz.func49, Tryz.ntmps49
      go_wp2_with (first | (go_at_call 73; refine (H1.out _ _).mono ?_; rintro e w' ⟨rfl, rfl⟩))
      go_ret
      exact ⟨by rw [p1, p2]; rfl, rfl⟩
    · have p2 : decide (y < x) = false := decide_eq_false h2
      clear h1 h2
      go_enter Tryz.func49, Tryz.ntmps49
      go_wp2_with (first | (go_at_call 73; refine (H1.out _ _).mono ?_; rintro e w' ⟨rfl, rfl⟩))
      go_ret
      exact ⟨by rw [p1, p2]; rfl, rfl⟩
set_option maxHeartbeats 1000000 in
theorem cmpU_any (x y : Nat) (w : World) : Calls Tryz.prog 51 #[.int .u64 x, .int .u64 y] w fun e w' => e = .returned (.int .i64 (c3 (decide (x < y)) (decide (y < x)))) ∧ w = w' := by
  have H1 := Lib.hid (fun x w => nanU_any x w)
  by_cases h1 : x < y
  · have p1 : decide (x < y) = true := decide_eq_true h1
    clear h1
    go_enter Tryz.func51, Tryz.ntmps51
    go_wp2_with (first | (go_at_call 75; refine (H1.out _ _).mono ?_; rintro e w' ⟨rfl, rfl⟩))
    go_ret
    exact ⟨by rw [p1]; rfl, rfl⟩
  · have p1 : decide (x < y) = false := decide_eq_false h1
    by_cases h2 : y < x
    · have p2 : decide (y < x) = true := decide_eq_true h2
      clear h1 h2
      go_enter Tryz.func51, Tryz.ntmps51
      go_wp2_with (first | (go_at_call 75; refine (H1.out _ _).mono ?_; rintro e w' ⟨rfl, rfl⟩))
      go_ret
      exact ⟨by rw [p1, p2]; rfl, rfl⟩
    · have p2 : decide (y < x) = false := decide_eq_false h2
      clear h1 h2
      go_enter Tryz.func51, Tryz.ntmps51
      go_wp2_with (first | (go_at_call 75; refine (H1.out _ _).mono ?_; rintro e w' ⟨rfl, rfl⟩))
      go_ret
      exact ⟨by rw [p1, p2]; rfl, rfl⟩
set_option maxHeartbeats 1000000 in
theorem cmpS_any (x y : List UInt8) (w : World) : Calls Tryz.prog 50 #[.string (bs x), .string (bs y)] w fun e w' => e = .returned (.int .i64 (c3 (decide (x < y)) (decide (y < x)))) ∧ w = w' := by
  have H1 := Lib.hid (fun x w => nanS_any x w)
  have b1 := bless_txt x y
  have b2 := bless_txt y x
  by_cases h1 : x < y
  · have p1 : decide (x < y) = true := decide_eq_true h1
    rw [p1] at b1
    clear h1 b2
    have P1 := Lib.hid p1
    clear p1
    go_enter Tryz.func50, Tryz.ntmps50
    go_wp2_with (first | (go_at_call 74; refine (H1.out _ _).mono ?_; rintro e w' ⟨rfl, rfl⟩))
    go_ret
    exact ⟨by rw [P1.out]; rfl, rfl⟩
  · have p1 : decide (x < y) = false := decide_eq_false h1
    rw [p1] at b1
    by_cases h2 : y < x
    · have p2 : decide (y < x) = true := decide_eq_true h2
      have q2 : ((bs x).toList == (bs y).toList) = false := by
        rw [bs_list, bs_list]
        exact beq_false_of_ne fun e => h1 (e ▸ absurd h2 (e ▸ h1))
      have P1 := Lib.hid p1
      have P2 := Lib.hid p2
      clear h1 h2 p1 p2 b2
      go_enter Tryz.func50, Tryz.ntmps50
      go_wp2_with (first | (go_at_call 74; refine (H1.out _ _).mono ?_; rintro e w' ⟨rfl, rfl⟩))
      go_ret
      exact ⟨by rw [P1.out, P2.out]; rfl, rfl⟩
    · have p2 : decide (y < x) = false := decide_eq_false h2
      obtain rfl : x = y := by
        rcases txtL.tri x y with h | h | h
        · exact absurd h h1
        · exact h
        · exact absurd h h2
      have P1 := Lib.hid p1
      clear h1 h2 p1 p2 b2
      go_enter Tryz.func50, Tryz.ntmps50
      go_wp2_with (first | (go_at_call 74; refine (H1.out _ _).mono ?_; rintro e w' ⟨rfl, rfl⟩))
      go_ret
      exact ⟨by rw [P1.out]; rfl, rfl⟩
/-- The first that is not nought. -/
def orr : List Int → Int
  | [] => 0
  | x :: xs => if x = 0 then orr xs else x
theorem drop_at {α : Type} {l : List α} {i : Nat} {x : α} (h : l[i]? = some x) : l.drop i = x :: l.drop (i + 1) := by
  obtain ⟨h3, rfl⟩ := List.getElem?_eq_some_iff.1 h
  exact List.drop_eq_getElem_cons h3
set_option maxHeartbeats 2000000 in
theorem or_any (A : Option Addr) (c : Nat) (xs : List Int) (w : World) (hx : Ints w A c xs) (hn : xs.length ≤ 1000000) :
    Calls Tryz.prog 48 #[.slice A xs.length c] w fun e w' => e = .returned (.int .i64 (orr xs)) ∧ w = w' := by
  have HX := Lib.hid hx
  clear hx
  go_enter Tryz.func48, Tryz.ntmps48
  go_wp2_with fail
  go_loop [8] (fun u => ∃ i : Nat, i ≤ xs.length ∧ u = .int .i64 i ∧ orr xs = orr (xs.drop i)) (fun u => xs.length - (intOf u).toNat)
  case atStart => exact ⟨0, Nat.zero_le _, rfl, rfl⟩
  case round =>
    obtain ⟨i, hil, rfl, hor⟩ := hrel
    by_cases h1 : i < xs.length
    · obtain ⟨g, o, x, rfl, hg, hxi, hcell⟩ := HX.out.at_ h1
      rw [drop_at hxi] at hor
      by_cases hx0 : x = 0
      · have q : (x != 0) = false := by simp [hx0]
        have hs := Lib.hid (hor.trans (if_pos hx0))
        clear hxi hor hx0
        go_wp2
        go_round
        case rel => exact ⟨i + 1, by omega, by go_num, hs.out⟩
        case measure => simp [intOf]; omega
      · have q : (x != 0) = true := by simp [hx0]
        have hs := Lib.hid (hor.trans (if_neg hx0))
        clear hxi hor hx0
        go_wp2
        go_ret
        exact ⟨by rw [hs.out]; rfl, rfl⟩
    · rw [List.drop_of_length_le (by omega)] at hor
      have hs := Lib.hid hor
      clear hor
      go_wp2
      go_ret
      exact ⟨by rw [hs.out]; rfl, rfl⟩
/-- What the order says of two values. -/
def cf (a b : Pv) : Int := orr [c3 (decide (a.tag < b.tag)) (decide (b.tag < a.tag)), c3 (decide (a.text < b.text)) (decide (b.text < a.text)), c3 (decide (a.bits < b.bits)) (decide (b.bits < a.bits)),
  c3 (decide (a.cls < b.cls)) (decide (b.cls < a.cls)), c3 (decide (a.name < b.name)) (decide (b.name < a.name)), c3 (decide (a.desc < b.desc)) (decide (b.desc < a.desc))]
theorem c3_lt {α : Type} {lt : α → α → Prop} [DecidableRel lt] (L : Lin lt) (a b : α) : (c3 (decide (lt a b)) (decide (lt b a)) < 0 ↔ lt a b) ∧ (c3 (decide (lt a b)) (decide (lt b a)) = 0 ↔ a = b) := by
  unfold c3
  rcases L.tri a b with h | h | h
  · rw [decide_eq_true h]
    simp [L.ne h, h]
  · subst h
    simp [L.irrefl]
  · rw [decide_eq_true h, decide_eq_false (L.asymm h)]
    simp [L.asymm h, Ne.symm (L.ne h)]
theorem orr_step {α : Type} {lt : α → α → Prop} [DecidableRel lt] (L : Lin lt) (a b : α) (xs : List Int) : orr (c3 (decide (lt a b)) (decide (lt b a)) :: xs) < 0 ↔ lt a b ∨ (a = b ∧ orr xs < 0) := by
  obtain ⟨h1, h2⟩ := c3_lt L a b
  show (if c3 (decide (lt a b)) (decide (lt b a)) = 0 then orr xs else c3 (decide (lt a b)) (decide (lt b a))) < 0 ↔ _
  split
  · rename_i h
    have e := h2.1 h
    subst e
    simp [L.irrefl]
  · rename_i h
    have e : ¬ a = b := fun e => h (h2.2 e)
    simp [e, h1]
theorem cf_lt (a b : Pv) : cf a b < 0 ↔ Pv.lt a b := by
  unfold cf
  rw [orr_step intL, orr_step txtL, orr_step natL, orr_step txtL, orr_step txtL, orr_step txtL]
  simp [orr, Pv.lt, lexL, Pv.key]
set_option maxHeartbeats 4000000 in
set_option maxRecDepth 100000 in
theorem compare_grows (a b : Pv) (w : World) : Calls Tryz.prog 26 #[vv a, vv b] w fun e w' => e = .returned (.int .i64 (cf a b)) ∧ ∃ q os, w' = Sort.grow (w.drewN q) os := by
  have qa := Lib.hid ((vbox_new w a).keep ((Below.refl _ _).alloc (Nat.le_refl _) (.cells #[.int .i64 b.tag, .string (bs b.text), .int .u64 b.bits, .string (bs b.cls), .string (bs b.name), .string (bs b.desc)] 36)) (vbox_new w a).lt)
  have qb := Lib.hid (vbox_new (w.alloc (.cells #[.int .i64 a.tag, .string (bs a.text), .int .u64 a.bits, .string (bs a.cls), .string (bs a.name), .string (bs a.desc)] 36)) b)
  rw [World.size_alloc] at qb
  unfold vv
  have HW := Lib.hid (show ∃ os, (w.alloc (.cells #[.int .i64 a.tag, .string (bs a.text), .int .u64 a.bits, .string (bs a.cls), .string (bs a.name), .string (bs a.desc)] 36)).alloc (.cells #[.int .i64 b.tag, .string (bs b.text), .int .u64 b.bits, .string (bs b.cls), .string (bs b.name), .string (bs b.desc)] 36) = Sort.grow w os from
    ⟨_, by rw [Sort.alloc_eq_grow, Sort.alloc_eq_grow, Sort.grow_grow]⟩)
  go_enter Tryz.func26, Tryz.ntmps26
  go_wp2_with fail
  generalize (w.alloc (.cells #[.int .i64 a.tag, .string (bs a.text), .int .u64 a.bits, .string (bs a.cls), .string (bs a.name), .string (bs a.desc)] 36)).alloc (.cells #[.int .i64 b.tag, .string (bs b.text), .int .u64 b.bits, .string (bs b.cls), .string (bs b.name), .string (bs b.desc)] 36) = W at HW qa qb ⊢
  obtain ⟨c0, c1, c2, c3', c4, c5⟩ := qa.out.at_
  obtain ⟨d0, d1, d2, d3, d4, d5⟩ := qb.out.at_
  refine wp_region_draw_tail 30 (by kernel_rfl) (by kernel_rfl) ?_
  simp only [List.take_succ_cons, List.take_zero, List.drop_succ_cons, List.drop_zero]
  repeat (go_big_quiet_step ((first | (go_at_call 49; exact (cmpI_any _ _ _).mono fun e w' h => ⟨h.1, _, h.2.symm⟩) | (go_at_call 51; exact (cmpU_any _ _ _).mono fun e w' h => ⟨h.1, _, h.2.symm⟩) | (go_at_call 50; exact (cmpS_any _ _ _).mono fun e w' h => ⟨h.1, _, h.2.symm⟩))))
  refine wpQuiet_nil ?_
  intro q1
  have hcc : cf a b = orr [c3 (decide (a.tag < b.tag)) (decide (b.tag < a.tag)), c3 (decide (a.text < b.text)) (decide (b.text < a.text)), c3 (decide (a.bits < b.bits)) (decide (b.bits < a.bits)),
    c3 (decide (a.cls < b.cls)) (decide (b.cls < a.cls)), c3 (decide (a.name < b.name)) (decide (b.name < a.name)), c3 (decide (a.desc < b.desc)) (decide (b.desc < a.desc))] := rfl
  generalize c3 (decide (a.tag < b.tag)) (decide (b.tag < a.tag)) = r0 at *
  generalize c3 (decide (a.text < b.text)) (decide (b.text < a.text)) = r1 at *
  generalize c3 (decide (a.bits < b.bits)) (decide (b.bits < a.bits)) = r2 at *
  generalize c3 (decide (a.cls < b.cls)) (decide (b.cls < a.cls)) = r3 at *
  generalize c3 (decide (a.name < b.name)) (decide (b.name < a.name)) = r4 at *
  generalize c3 (decide (a.desc < b.desc)) (decide (b.desc < a.desc)) = r5 at *
  have HCC := Lib.hid hcc
  clear hcc c0 c1 c2 c3' c4 c5 d0 d1 d2 d3 d4 d5 qa qb
  go_wp2_with fail
  refine (or_any _ 6 [r0, r1, r2, r3, r4, r5] _ ⟨by simp, fun _ => ⟨W.heap.size, 0, rfl, by simp, fun j x hx => ?_⟩⟩ (by simp)).mono ?_
  · have hb := (blk_facts (heap_alloc_new (W.drewN q1) (.cells #[.int .i64 r0, .int .i64 r1, .int .i64 r2, .int .i64 r3, .int .i64 r4, .int .i64 r5] 3))).1 (0 + j)
    refine Eq.trans hb ?_
    have hj : j < 6 := by simpa using (List.getElem?_eq_some_iff.1 hx).1
    have hr : j = 0 ∨ j = 1 ∨ j = 2 ∨ j = 3 ∨ j = 4 ∨ j = 5 := by omega
    rcases hr with rfl | rfl | rfl | rfl | rfl | rfl <;> (simp at hx; subst hx; rfl)
  · rintro e w2 ⟨rfl, rfl⟩
    go_wp2
    go_ret
    refine ⟨by rw [HCC.out]; rfl, ?_⟩
    obtain ⟨os, hos⟩ := HW.out
    exact ⟨q1, _, by rw [hos, Sort.alloc_eq_grow]; exact Sort.grow_grow (w.drewN q1) os _⟩
theorem grow_below (w : World) (q : Nat) (os : Array Obj) : Below w.heap.size w (Sort.grow (w.drewN q) os) :=
  ⟨rfl, rfl, rfl, by show w.heap.size ≤ (w.heap ++ os).size; simp, fun k hk => by show (w.heap ++ os)[k]? = _; rw [Array.getElem?_append_left hk]⟩
theorem compare_any (a b : Pv) (w : World) : Calls Tryz.prog 26 #[vv a, vv b] w fun e w' => e = .returned (.int .i64 (cf a b)) ∧ Below w.heap.size w w' :=
  (compare_grows a b w).mono fun _ _ ⟨h1, q, os, h2⟩ => ⟨h1, h2 ▸ grow_below w q os⟩
end Go.Proofs.YtkdamaomhppkgaaGreat
