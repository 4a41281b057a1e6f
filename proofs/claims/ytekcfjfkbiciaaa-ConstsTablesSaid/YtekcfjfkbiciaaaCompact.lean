/- The walk of the library: equal neighbours of a row of values are struck. -/
import Derived.Test.YtekcfjfkbiciaaaSort
import Derived.Lib.SlicesCompact
import Derived.Deep.LoopGhost
import Derived.Deep.QuietTactic
import Derived.BigQuiet
import Derived.Lib.SliceRun
namespace Go.Proofs.Ytekcfjfkbiciaaa
open Go.RowKit Go.Sort

/-! ### Plain -/
theorem compact_snoc (l : List Pv) (m : Nat) (hm : m < l.length) : Lib.compactUpTo l.toArray (m + 1) = Lib.compactUpTo l.toArray m ++ (if m = 0 ∨ l.toArray[m]! ≠ l.toArray[m - 1]! then [l[m]] else []) := by
  rw [Lib.compactUpTo_succ]
  unfold Lib.keeps
  have e : l.toArray[m]! = l[m] := by simp [hm]
  by_cases h : m = 0 ∨ l.toArray[m]! ≠ l.toArray[m - 1]!
  · rw [if_pos h, decide_eq_true h, if_pos rfl, e]
  · rw [if_neg h, decide_eq_false h]; rfl
/-- Of a row in order each value comes once, in order. -/
theorem compact_rises {l : List Pv} (h : l.Pairwise (fun a b => ¬ Pv.lt b a)) : ∀ m, m ≤ l.length → (Lib.compactUpTo l.toArray m).Pairwise Pv.lt ∧ (∀ x, x ∈ Lib.compactUpTo l.toArray m ↔ x ∈ l.take m) ∧ (0 < m → (Lib.compactUpTo l.toArray m).getLast? = l[m - 1]?)
  | 0, _ => by simp [Lib.compactUpTo]
  | m + 1, hm => by
    obtain ⟨h1, h2, h3⟩ := compact_rises h m (by omega)
    have hm' : m < l.length := by omega
    rw [compact_snoc l m hm']
    have ht : l.take (m + 1) = l.take m ++ [l[m]] := List.take_succ_eq_append_getElem hm'
    have hle : ∀ x ∈ Lib.compactUpTo l.toArray m, ¬ Pv.lt l[m] x := fun x hx => by
      obtain ⟨i, hi, rfl⟩ := List.mem_iff_getElem.1 ((h2 x).1 hx)
      rw [List.length_take] at hi
      rw [List.getElem_take]
      exact List.pairwise_iff_getElem.1 h i m (by omega) hm' (by omega)
    by_cases hk : m = 0 ∨ l.toArray[m]! ≠ l.toArray[m - 1]!
    · rw [if_pos hk]
      refine ⟨List.pairwise_append.2 ⟨h1, by simp, fun a ha b hb => ?_⟩, fun x => by rw [ht, List.mem_append, List.mem_append, h2], fun _ => by simp [hm']⟩
      rw [List.mem_singleton] at hb
      subst hb
      rcases Pv.lin.tri a l[m] with e | e | e
      · exact e
      · exfalso
        rcases Nat.eq_zero_or_pos m with h0 | h0
        · subst h0; simp [Lib.compactUpTo] at ha
        · have hl := h3 h0
          have e1 : l.toArray[m]! = l[m] := by simp [hm']
          have e2 : l.toArray[m - 1]! = l[m - 1] := by simp [show m - 1 < l.length by omega]
          have hne : l[m] ≠ l[m - 1] := by
            rcases hk with hk | hk
            · omega
            · rwa [e1, e2] at hk
          have hlast : l[m - 1] ∈ Lib.compactUpTo l.toArray m := by
            refine List.mem_of_getLast? (hl.trans (List.getElem?_eq_getElem (by omega)))
          -- a is not behind the last one
          have hal : a = l[m - 1] ∨ Pv.lt a l[m - 1] := by
            rw [List.getElem?_eq_getElem (show m - 1 < l.length by omega)] at hl
            obtain ⟨ys, hy⟩ := List.getLast?_eq_some_iff.1 hl
            rw [hy] at ha h1
            rcases List.mem_append.1 ha with ha | ha
            · exact .inr ((List.pairwise_append.1 h1).2.2 a ha _ (by simp))
            · exact .inl (by simpa using ha)
          rcases hal with hal | hal
          · exact hne (by rw [← e, hal])
          · rw [e] at hal
            exact List.pairwise_iff_getElem.1 h (m - 1) m (by omega) hm' (by omega) hal
      · exact absurd e (hle a ha)
    · rw [if_neg hk, List.append_nil]
      have h0 : 0 < m := Nat.pos_of_ne_zero fun e => hk (.inl e)
      have e1 : l.toArray[m]! = l[m] := by simp [hm']
      have e2 : l.toArray[m - 1]! = l[m - 1] := by simp [show m - 1 < l.length by omega]
      have hq : l[m] = l[m - 1] := by
        refine Decidable.byContradiction fun e => hk (.inr ?_)
        rw [e1, e2]; exact e
      have hml : l[m - 1] ∈ l.take m := by
        rw [List.mem_iff_getElem]
        exact ⟨m - 1, by rw [List.length_take]; omega, by rw [List.getElem_take]⟩
      refine ⟨h1, fun x => ?_, fun _ => ?_⟩
      · rw [h2, ht, List.mem_append, List.mem_singleton]
        constructor
        · exact .inl
        · rintro (hx | rfl)
          · exact hx
          · rw [hq]; exact hml
      · rw [h3 h0, Nat.add_sub_cancel, List.getElem?_eq_getElem hm', List.getElem?_eq_getElem (by omega), hq]
theorem compact_sd {l l0 : List Pv} (h : l.Pairwise (fun a b => ¬ Pv.lt b a)) (hp : l.Perm l0) : Lib.compactUpTo l.toArray l.length = sd Pv.lt l0 := by
  obtain ⟨h1, h2, _⟩ := compact_rises h l.length (Nat.le_refl _)
  refine rises_uniq Pv.lin h1 (sd_rises Pv.lin _) fun x => ?_
  rw [h2, List.take_length, sd_mem Pv.lin, hp.mem_iff]
/-! ### The walk -/
theorem vc_take : ∀ (xs : List Pv) (k : Nat), (vc xs).take (k * 6) = vc (xs.take k)
  | [], k => by simp [vc]
  | x :: xs, 0 => by simp [vc]
  | x :: xs, k + 1 => by
    rw [show (k + 1) * 6 = k * 6 + 6 by omega]
    simp [vc, vc_take xs k]
theorem vc_drop : ∀ (xs : List Pv) (k : Nat), (vc xs).drop (k * 6) = vc (xs.drop k)
  | [], k => by simp [vc]
  | x :: xs, 0 => by simp
  | x :: xs, k + 1 => by
    rw [show (k + 1) * 6 = k * 6 + 6 by omega]
    simp [vc, vc_drop xs k]
theorem grownBy_setCells (w : World) (g o : Nat) (vs : List Value) {cur : Array Value} {t : TypeId} {fr : Nat × Nat} (h : w.heap[g]? = some (.cells cur t fr)) (hl : o + vs.length ≤ cur.size) : w.grownBy (w.setCells g o vs) (some g) := by
  rw [setCells_eq_setRow g t fr vs o w cur h hl]
  exact ⟨rfl, rfl, rfl, by simp, fun k _ hne => setRow_other w g k _ (fun hh => hne (by rw [hh]))⟩
/-- One value is laid. -/
theorem VRow.setAt {w : World} {base g n cap : Nat} {xs : List Pv} (h : VRow w base (.slice (some ⟨g, 0, none⟩) n cap) xs) {k : Nat} (hk : k < xs.length) (x : Pv) :
    VRow (w.setCells g (k * 6) (vc [x])) base (.slice (some ⟨g, 0, none⟩) n cap) (xs.set k x) ∧ w.grownBy (w.setCells g (k * 6) (vc [x])) (some g) := by
  rcases h.2 with ⟨h0, _⟩ | ⟨g', cap', cur, hv, h1, h2, h3, h4, h5, h6⟩
  · cases h0
  · cases hv
    have hs : k * 6 + (vc [x]).length ≤ cur.size := by
      rw [vc_length, h5]
      have : (k + 1) * 6 ≤ cap * 6 := Nat.mul_le_mul_right _ (by omega)
      simp only [List.length_cons, List.length_nil]
      omega
    refine ⟨?_, grownBy_setCells w g _ _ h2 hs⟩
    rw [setCells_eq_setRow g 25 (0, 0) (vc [x]) (k * 6) w cur h2 hs]
    have hn : (xs.set k x).length = xs.length := List.length_set ..
    unfold VRow
    rw [hn]
    refine ⟨by rw [vc_length, hn], .inr ⟨g, cap, _, rfl, h1, setRow_heap w g cur _ 25 (0, 0) h2, h3, h4, ?_, ?_⟩⟩
    · simp only [List.size_toArray, List.length_append, List.length_take, List.length_drop, Array.length_toList]
      rw [Nat.min_eq_left (by omega), ← h5]
      omega
    · have e1 : cur.toList.take (k * 6) = vc (xs.take k) := by
        rw [← vc_take, ← h6, List.take_take, Nat.min_eq_left (Nat.mul_le_mul_right _ (by omega))]
      have e2 : xs.set k x = xs.take k ++ [x] ++ xs.drop (k + 1) := by
        rw [List.set_eq_take_append_cons_drop, if_pos hk]
        simp
      have hl1 : (vc (xs.take k) ++ vc [x]).length = (k + 1) * 6 := by
        rw [List.length_append, vc_length, vc_length, List.length_take, Nat.min_eq_left (by omega)]
        simp only [List.length_cons, List.length_nil]
        omega
      show (cur.toList.take (k * 6) ++ vc [x] ++ cur.toList.drop (k * 6 + (vc [x]).length)).take (xs.length * 6) = _
      rw [e1, e2, vc_append, vc_append, ← vc_drop, ← h6, List.drop_take, List.take_append, hl1, List.take_of_length_le (by rw [hl1]; exact Nat.mul_le_mul_right _ (by omega))]
      congr 2
      simp only [vc_length, List.length_cons, List.length_nil]
      congr 1
      omega
/-- The row's head. -/
theorem VRow.head {w : World} {base g n cap : Nat} {xs : List Pv} (h : VRow w base (.slice (some ⟨g, 0, none⟩) n cap) xs) {k : Nat} (hk : k ≤ xs.length) : VRow w base (.slice (some ⟨g, 0, none⟩) k cap) (xs.take k) := by
  rcases h.2 with ⟨h0, _⟩ | ⟨g', cap', cur, hv, h1, h2, h3, h4, h5, h6⟩
  · cases h0
  · cases hv
    have hl : (xs.take k).length = k := by rw [List.length_take]; omega
    unfold VRow
    rw [hl]
    refine ⟨by rw [vc_length, hl], .inr ⟨g, cap, cur, rfl, h1, h2, by omega, h4, h5, ?_⟩⟩
    rw [← vc_take, ← h6, List.take_take, Nat.min_eq_left (Nat.mul_le_mul_right _ hk)]
/-- What lies behind the row's head turns. -/
theorem VRow.tail {w : World} {base g n cap : Nat} {xs : List Pv} (h : VRow w base (.slice (some ⟨g, 0, none⟩) n cap) xs) {m : Nat} (hm : xs.length ≤ m) (vs : List Value) (hv : m * 6 + vs.length ≤ cap * 6) :
    VRow (w.setCells g (m * 6) vs) base (.slice (some ⟨g, 0, none⟩) n cap) xs ∧ w.grownBy (w.setCells g (m * 6) vs) (some g) := by
  rcases h.2 with ⟨h0, _⟩ | ⟨g', cap', cur, hv, h1, h2, h3, h4, h5, h6⟩
  · cases h0
  · cases hv
    have hs : m * 6 + vs.length ≤ cur.size := by rw [h5]; exact hv
    refine ⟨?_, grownBy_setCells w g _ _ h2 hs⟩
    rw [setCells_eq_setRow g 25 (0, 0) vs (m * 6) w cur h2 hs]
    refine ⟨h.1, .inr ⟨g, cap, _, rfl, h1, setRow_heap w g cur _ 25 (0, 0) h2, h3, h4, ?_, ?_⟩⟩
    · simp only [List.size_toArray, List.length_append, List.length_take, List.length_drop, Array.length_toList]
      rw [Nat.min_eq_left (by omega), ← h5]
      omega
    · show (cur.toList.take (m * 6) ++ vs ++ cur.toList.drop (m * 6 + vs.length)).take (xs.length * 6) = _
      have hle : xs.length * 6 ≤ m * 6 := Nat.mul_le_mul_right _ hm
      have hlt : xs.length * 6 ≤ (cur.toList.take (m * 6)).length := by
        rw [List.length_take, Array.length_toList]
        exact Nat.le_min.2 ⟨hle, Nat.le_trans hle (Nat.le_trans (Nat.le_add_right _ _) hs)⟩
      rw [List.append_assoc, List.take_append_of_le_length hlt, List.take_take, Nat.min_eq_left hle, h6]
theorem VRow.blk {w : World} {base g n cap : Nat} {xs : List Pv} (h : VRow w base (.slice (some ⟨g, 0, none⟩) n cap) xs) : ∃ cc, w.heap[g]? = some (.cells cc 25 (0, 0)) ∧ cc.size = cap * 6 := by
  rcases h.2 with ⟨h0, _⟩ | ⟨g', cap', cur, hv, h1, h2, h3, h4, h5, h6⟩
  · cases h0
  · cases hv; exact ⟨cur, h2, h5⟩
theorem zeroCells_one (z : Array Value) (h : ∀ u ∈ z.toList, u.oneCell' = true) (n : Nat) : ∀ u ∈ (Builtin.zeroCells z n).toList, u.oneCell' = true := by
  intro u hu
  unfold Builtin.zeroCells at hu
  simp only [Array.toList_map, List.mem_map, Array.mem_toList_iff, Array.mem_range] at hu
  obtain ⟨i, hi, rfl⟩ := hu
  have h0 : 0 < z.size := by
    rcases Nat.eq_zero_or_pos z.size with e | e
    · rw [e] at hi; omega
    · exact e
  have hlt := Nat.mod_lt i h0
  rw [getElem!_pos z _ hlt]
  exact h _ (by simp)
set_option maxRecDepth 100000 in
theorem run_clear_vals (w : World) (g o n c : Nat) (hn : 0 < n) (hc : ∀ j, j < n * 6 → (w.cell? ⟨g, o + j, none⟩).isSome = true) (hf : ∀ j, j < n * 6 → w.frozen? ⟨g, o + j, none⟩ = false) :
    ∃ vs : List Value, vs.length = n * 6 ∧ ∀ ty, (Builtin.clear_ #[22] ty #[.slice (some ⟨g, o, none⟩) n c]).run Try.prog w = .ok (.tuple #[]) (w.setCells g o vs) := by
  have hz := fun w => Try.zeroValue25 w
  refine ⟨(Builtin.zeroCells (Value.agg #[.int .i64 0, .string ⟨#[]⟩, .int .u64 0, .string ⟨#[]⟩, .string ⟨#[]⟩, .string ⟨#[]⟩]).cells n).toList, by rw [Array.length_toList, size_zeroCells]; rfl, fun ty => ?_⟩
  have hl : (Builtin.zeroCells (Value.agg #[.int .i64 0, .string ⟨#[]⟩, .int .u64 0, .string ⟨#[]⟩, .string ⟨#[]⟩, .string ⟨#[]⟩]).cells n).toList.length = n * 6 := by rw [Array.length_toList, size_zeroCells]; rfl
  have hst := run_storeCells_cells (P := Try.prog) g o (Builtin.zeroCells (Value.agg #[.int .i64 0, .string ⟨#[]⟩, .int .u64 0, .string ⟨#[]⟩, .string ⟨#[]⟩, .string ⟨#[]⟩]).cells n).toList 0 w (by rw [hl]; simpa using hc) (by rw [hl]; simpa using hf) (zeroCells_one _ (vc_one [Pv.zero]) n)
  simp only [Nat.add_zero] at hst
  obtain ⟨m, rfl⟩ : ∃ m, n = m + 1 := ⟨n - 1, by omega⟩
  simp [Builtin.clear_, run_underlying Try.underlying22, hz, hst]
set_option maxRecDepth 100000 in
set_option maxHeartbeats 8000000 in
theorem compact_any (base : Nat) (u : Value) (l : List Pv) (w : World) (hx : VRow w base u l) (hn : l.length ≤ 1000000) :
    Calls Try.prog 39 #[u] w fun e w' => ∃ u', e = .returned u' ∧ VRow w' base u' (Lib.compactUpTo l.toArray l.length) ∧ w.grownBy w' u.ownBlock ∧ u'.ownBlock = u.ownBlock := by
  have HX := Lib.hid hx
  have HE := Lib.hid (fun a b x => eq_val a b x)
  unfold vv at HE
  by_cases h2 : l.length < 2
  · obtain ⟨A, c, rfl, _, _⟩ := hx.reads
    have hall := Lib.hid (show Lib.compactUpTo l.toArray l.length = l by
      rw [Lib.compactUpTo_all _ _ (fun j hj => Lib.keeps_lt_one _ j (by omega))]
      have := Lib.range_map_get l.toArray
      simpa using this)
    have p1 : decide ((l.length : Int) < 2) = true := decide_eq_true (by omega)
    clear h2 hx
    go_enter Try.func39, Try.ntmps39
    go_wp2
    go_ret
    exact ⟨_, rfl, by rw [hall.out]; exact HX.out, World.grownBy.refl _ _, rfl⟩
  · rcases id hx.2 with ⟨rfl, hn0⟩ | ⟨g, cap, cur, rfl, h1, h3, h4, h5, h6, h7⟩
    · omega
    have hV := hx.reads
    obtain ⟨A, c, e, hVv, _⟩ := hV
    cases e
    have HV := Lib.hid hVv
    have p1 : decide ((l.length : Int) < 2) = false := decide_eq_false (by omega)
    clear hVv hx h7
    go_enter Try.func39, Try.ntmps39
    go_wp2_with fail
    go_loopg [3] l.length (fun g3 s3 wr => ∃ k : Nat, 1 ≤ k ∧ k ≤ l.length ∧ l.length - k ≤ g3 ∧ s3 = .int .i64 k ∧ (∃ q, wr = w.drewN q) ∧ ∀ j, j < k → Lib.keeps l.toArray j = true)
    case atStart => exact ⟨1, Nat.le_refl _, by omega, by omega, rfl, ⟨0, rfl⟩, Lib.keeps_lt_one _⟩
    case round =>
      obtain ⟨k, hk1, hk, hg, rfl, ⟨q, rfl⟩, hall⟩ := hrel
      have HA := Lib.hid hall
      clear hall
      by_cases hlt : k < l.length
      · obtain ⟨g1, o1, x, e1, hg1, hxk, c0, c1, c2, c3, c4, c5⟩ := HV.out.at_ hlt
        cases e1
        obtain ⟨g2, o2, y, e2, hg2, hyk, d0, d1, d2, d3, d4, d5⟩ := HV.out.at_ (i := k - 1) (by omega)
        cases e2
        have q1 : decide ((k : Int) < (l.length : Int)) = true := decide_eq_true (by omega)
        have q2 : decide (k < l.length) = true := decide_eq_true hlt
        have q3 : (k : Int) - 1 = ((k - 1 : Nat) : Int) := by omega
        have q4 : decide (k - 1 < l.length) = true := decide_eq_true (by omega)
        simp only [Nat.zero_add] at c0 c1 c2 c3 c4 c5 d0 d1 d2 d3 d4 d5
        have B := Lib.hid (show l.toArray[k]! = x ∧ l.toArray[k - 1]! = y by
          obtain ⟨a1, a2⟩ := List.getElem?_eq_some_iff.1 hxk
          obtain ⟨a3, a4⟩ := List.getElem?_eq_some_iff.1 hyk
          exact ⟨by rw [← a2]; simp [hlt], by rw [← a4]; simp [show k - 1 < l.length by omega]⟩)
        clear hxk hyk
        by_cases e : x = y
        · have he := fun z => (HE.out x y z).trans (by rw [decide_eq_true e])
          have HD := Lib.hid (Lib.keeps_neg (d := l.toArray) (m := k) (by omega) (by rw [B.out.1, B.out.2, e]))
          clear e
          go_wp2_with fail
          go_quiet (fail)
          go_wp2_with fail
          have HST := Lib.hid (show ∃ (kk k2 : Nat) (dk : Array Pv), 1 ≤ k2 ∧ k + k2 ≤ l.length ∧ l.length - (k + k2) ≤ l.length ∧ (Value.int .i64 k) = .int .i64 kk ∧ (Value.int .i64 1) = .int .i64 k2 ∧ VRow (w.drewN (q + nq)) base (.slice (some ⟨g, 0, none⟩) l.length cap) dk.toList ∧ Lib.CompInv l.toArray (k + k2) kk dk ∧ w.grownBy (w.drewN (q + nq)) (some g) from
            ⟨k, 1, l.toArray, Nat.le_refl _, by omega, by omega, rfl, rfl, HX.out, Lib.CompInv.start HA.out HD.out, ⟨rfl, rfl, rfl, Nat.le_refl _, fun _ _ _ => rfl⟩⟩)
          clear c0 c1 c2 c3 c4 c5 d0 d1 d2 d3 d4 d5 he
          go_loopg [3, 5] l.length (fun g4 s3 s5 wx => ∃ (kk k2 : Nat) (dk : Array Pv), 1 ≤ k2 ∧ k + k2 ≤ l.length ∧ l.length - (k + k2) ≤ g4 ∧ s3 = .int .i64 kk ∧ s5 = .int .i64 k2 ∧ VRow wx base (.slice (some ⟨g, 0, none⟩) l.length cap) dk.toList ∧ Lib.CompInv l.toArray (k + k2) kk dk ∧ w.grownBy wx (some g))
          case atStart => exact HST.out
          case round =>
            clear HST
            obtain ⟨kk, k2, dk, h21, hk2, hg4, rfl, rfl, hrow, hI, hgr⟩ := hrel
            have HR := Lib.hid hrow
            have HI := Lib.hid hI
            have HG := Lib.hid hgr
            have hkk := hI.lt
            have hds : dk.size = l.length := by have := hI.size; simpa using this
            have hdl : dk.toList.length = l.length := by simpa using hds
            clear hrow hI hgr
            have hv2 : Vals wr (some ⟨g, 0, none⟩) cap dk.toList := HR.out.vals
            by_cases hlt2 : k + k2 < l.length
            · obtain ⟨g1, o1, x2, e1, hg1, hxm, c0, c1, c2, c3, c4, c5⟩ := hv2.at_ (i := k + k2) (by omega)
              cases e1
              obtain ⟨g2, o2, y2, e2, hg2, hym, d0, d1, d2, d3, d4, d5⟩ := hv2.at_ (i := k + (k2 - 1)) (by omega)
              cases e2
              obtain ⟨g3, o3, z2, e3, hg3, hzm, f0, f1, f2, f3, f4, f5⟩ := hv2.at_ (i := kk) (by omega)
              cases e3
              have C := Lib.hid (show l.toArray[k + k2]! = x2 ∧ l.toArray[k + k2 - 1]! = y2 by
                have a1 := HI.out.high (k + k2) (by omega)
                have a2 := HI.out.high (k + k2 - 1) (by omega)
                rw [show k + (k2 - 1) = k + k2 - 1 by omega] at hym
                rw [Array.getElem?_toList] at hxm hym
                obtain ⟨b1, b2⟩ := Array.getElem?_eq_some_iff.1 hxm
                obtain ⟨b3, b4⟩ := Array.getElem?_eq_some_iff.1 hym
                exact ⟨by rw [← a1, getElem!_pos dk _ b1, b2], by rw [← a2, getElem!_pos dk _ b3, b4]⟩)
              have r1 : decide ((k2 : Int) < ((l.length - k : Nat) : Int)) = true := decide_eq_true (by omega)
              have r2 : decide (k2 < l.length - k) = true := decide_eq_true (by omega)
              have r3 : (k2 : Int) - 1 = ((k2 - 1 : Nat) : Int) := by omega
              have r4 : decide (k2 - 1 < l.length - k) = true := decide_eq_true (by omega)
              have r5 : decide (kk < l.length) = true := decide_eq_true (by omega)
              simp only [Nat.zero_add, Nat.add_mul] at c0 c1 c2 c3 c4 c5 d0 d1 d2 d3 d4 d5 f0 f1 f2 f3 f4 f5
              clear hxm hym hzm hv2
              by_cases e : x2 = y2
              · have he := fun z => (HE.out x2 y2 z).trans (by rw [decide_eq_true e])
                have HI2 := Lib.hid (HI.out.skip (Lib.keeps_neg (by omega) (by rw [C.out.1, C.out.2, e])))
                clear e
                go_wp2_with fail
                go_quiet (fail)
                go_wp2_with fail
                go_roundg (l.length - (k + (k2 + 1)))
                case measure => omega
                case rel => exact ⟨kk, k2 + 1, dk, by omega, by omega, Nat.le_refl _, rfl, by go_num, HR.out, HI2.out, ⟨HG.out.os, HG.out.tape, HG.out.output, HG.out.size, HG.out.block⟩⟩
              · have he := fun z => (HE.out x2 y2 z).trans (by rw [decide_eq_false e])
                have HI2 := Lib.hid (HI.out.keep (by simpa using hlt2) (Lib.keeps_pos (by rw [C.out.1, C.out.2]; exact e)))
                obtain ⟨cc, hcc, hcs⟩ := HR.out.blk
                have t0 := (blk_facts hcc).2 (kk * 6)
                have t1 := (blk_facts hcc).2 (kk * 6 + 1)
                have t2 := (blk_facts hcc).2 (kk * 6 + 2)
                have t3 := (blk_facts hcc).2 (kk * 6 + 3)
                have t4 := (blk_facts hcc).2 (kk * 6 + 4)
                have t5 := (blk_facts hcc).2 (kk * 6 + 5)
                clear e hcc hcs
                go_wp2_with fail
                go_quiet (fail)
                have HSA := Lib.hid (VRow.setAt (show VRow (wr.drewN nq) base (.slice (some ⟨g, 0, none⟩) l.length cap) dk.toList from HR.out) (k := kk) (by omega) x2)
                go_wp2_with fail
                have hdk : (dk.setIfInBounds kk l.toArray[k + k2]!).toList = dk.toList.set kk x2 := by rw [C.out.1, Array.toList_setIfInBounds]
                have HDK := Lib.hid hdk
                clear hdk t0 t1 t2 t3 t4 t5
                go_roundg (l.length - (k + (k2 + 1)))
                case measure => omega
                case rel => exact ⟨kk + 1, k2 + 1, _, by omega, by omega, Nat.le_refl _, by go_num, by go_num, by rw [HDK.out]; exact HSA.out.1, HI2.out, grownBy_trans HG.out (show wr.grownBy _ (some g) from ⟨HSA.out.2.os, HSA.out.2.tape, HSA.out.2.output, HSA.out.2.size, HSA.out.2.block⟩) (.inl rfl)⟩
            · have hend : k + k2 = l.length := by omega
              rw [hend] at HI
              have hlen := HI.out.len
              obtain ⟨cc, hcc, hcs⟩ := HR.out.blk
              have hroom : (kk + (l.length - kk)) * 6 ≤ cap * 6 := Nat.mul_le_mul_right _ (by omega)
              obtain ⟨vs, hvs, hcl⟩ := run_clear_vals wr g (kk * 6) (l.length - kk) (cap - kk) (by omega) (fun j hj => by
                rw [(blk_facts hcc).1]; simp; omega) (fun j hj => (blk_facts hcc).2 _)
              have r1 : decide ((k2 : Int) < ((l.length - k : Nat) : Int)) = false := decide_eq_false (by omega)
              have r2 : decide (k2 < l.length - k) = false := decide_eq_false (by omega)
              have HFIN := Lib.hid (show Lib.compactUpTo l.toArray l.length = dk.toList.take kk by
                refine List.ext_getElem? fun j => ?_
                by_cases hj : j < kk
                · rw [HI.out.low j hj, List.getElem?_take_of_lt hj, Array.getElem?_toList, getElem!_pos dk j (by omega), Array.getElem?_eq_getElem (by omega)]
                · rw [List.getElem?_eq_none (by omega), List.getElem?_take_eq_none (by omega)])
              have HH := Lib.hid ((HR.out.head (k := kk) (by omega)).tail (m := kk) (by rw [List.length_take]; omega) vs (by rw [hvs]; have : (kk + (l.length - kk)) * 6 ≤ cap * 6 := hroom; omega))
              have s1 : decide (kk ≤ l.length) = true := decide_eq_true (by omega)
              have s2 : kk ≤ l.length := by omega
              have s3 : kk ≤ cap := by omega
              have s4 : ¬ cap = kk := by omega
              clear hcc hcs hlen hend hv2
              go_wp2
              go_ret
              exact ⟨_, rfl, by rw [HFIN.out]; exact HH.out.1, grownBy_trans HG.out HH.out.2 (.inl rfl), rfl⟩
        · have he := fun z => (HE.out x y z).trans (by rw [decide_eq_false e])
          have HD := Lib.hid (Lib.keeps_pos (d := l.toArray) (m := k) (by rw [B.out.1, B.out.2]; exact e))
          clear e
          go_wp2_with fail
          go_quiet (fail)
          go_wp2_with fail
          go_roundg (l.length - (k + 1))
          case measure => omega
          case rel => exact ⟨k + 1, by omega, by omega, Nat.le_refl _, by go_num, ⟨_, rfl⟩, fun j hj => by
            by_cases ej : j = k
            · subst ej; exact HD.out
            · exact HA.out j (by omega)⟩
      · obtain rfl : k = l.length := by omega
        have q1 : decide ((l.length : Int) < (l.length : Int)) = false := decide_eq_false (by omega)
        have q2 : decide (l.length < l.length) = false := decide_eq_false (by omega)
        have hfin := Lib.hid (show Lib.compactUpTo l.toArray l.length = l by
          rw [Lib.compactUpTo_all _ _ HA.out]
          have := Lib.range_map_get l.toArray
          simpa using this)
        go_wp2
        go_ret
        exact ⟨_, rfl, by rw [hfin.out]; exact HX.out, ⟨rfl, rfl, rfl, Nat.le_refl _, fun _ _ _ => rfl⟩, rfl⟩
end Go.Proofs.Ytekcfjfkbiciaaa
