/- The walk of layer 14: what is wrong with a header, by the reference. -/
import Derived.Test.YtbjhnfemlpbchaaWalksJ
namespace Go.Proofs.Ytbjhnfemlpbchaa
open Go.RowKit Go.Maps

set_option maxHeartbeats 8000000 in
set_option maxRecDepth 100000 in
theorem rcheck_any (main : Bool) (A : Option Addr) (c : Nat) (ps : List Pr) (p : Pr) (w : World) (hx : Prs w A c ps) (hn : ps.length ≤ 1000000) (hl : ∀ q ∈ ps, q.1.length ≤ 1000000000) (h1 : p.1.length ≤ 1000000000) (h2 : p.2.length ≤ 1000000000) :
    Calls Try.prog 28 #[.bool main, .slice A ps.length c, pv p] w fun e w' => e = .returned (.int .i64 (Ma.take main ps p : Nat)) ∧ Below w.heap.size w w' := by
  have HX := Lib.hid hx
  have HL := Lib.hid hl
  have HP1 := Lib.hid (fun w => rsmall_any p.1 w h1)
  have HP2 := Lib.hid (fun w => rvalue_any p.2 w h2)
  have HP3 := Lib.hid (fun w => rname_any p.1 w h1)
  have HP4 := Lib.hid (fun w => first_any main w)
  have hT := Lib.hid (show Ma.take main ps p = if Ma.value p.2 = false then 2
  else if Ma.name p.1 = false ∨ (ps = [] ∧ Ma.small p.1 ≠ Ma.first main) then 8
  else if (ps.map fun q => Ma.small q.1).contains (Ma.small p.1) then 10 else 0 from rfl)
  unfold pv
  generalize Ma.small p.1 = sm at *
  generalize Ma.value p.2 = va at *
  generalize Ma.name p.1 = na at *
  generalize Ma.first main = fi at *
  clear hx hl
  go_enter Try.func28, Try.ntmps28
  go_wp2_with fail
  have q : (w.alloc (.cells #[.string (bs p.1), .string (bs p.2)] 44)).heap[w.heap.size]? = some (.cells #[.string (bs p.1), .string (bs p.2)] 44 (0, 0)) := heap_alloc_new _ _
  have k0 := (Below.refl w.heap.size w).alloc (Nat.le_refl _) (.cells #[.string (bs p.1), .string (bs p.2)] 44)
  generalize w.alloc (.cells #[.string (bs p.1), .string (bs p.2)] 44) = W at q k0 ⊢
  have hWq : w.heap.size < W.heap.size := (Array.getElem?_eq_some_iff.1 q).1
  have c0 : W.cell? ⟨w.heap.size, 0, none⟩ = some (.string (bs p.1)) := (blk_facts q).1 0
  have c1 : W.cell? ⟨w.heap.size, 1, none⟩ = some (.string (bs p.2)) := (blk_facts q).1 1
  have K0 := Lib.hid k0
  have Q := Lib.hid q
  clear q k0
  refine (HP2.out W).mono ?_
  rintro e w' ⟨rfl, rfl⟩
  cases va with
  | false =>
    have E1 := Lib.hid (show Ma.take main ps p = 2 by rw [hT.out]; rfl)
    go_wp2
    go_ret
    exact ⟨ret_int (by rw [E1.out]; rfl), K0.out⟩
  | true =>
  go_wp2_with fail
  refine (HP3.out W).mono ?_
  rintro e w' ⟨rfl, rfl⟩
  cases na with
  | false =>
    have E1 := Lib.hid (show Ma.take main ps p = 8 by rw [hT.out]; simp)
    go_wp2
    go_ret
    exact ⟨ret_int (by rw [E1.out]; rfl), K0.out⟩
  | true =>
  by_cases h0 : ps = []
  · have u1 : ((ps.length : Int) == 0) = true := by rw [h0]; rfl
    subst h0
    go_wp2_with fail
    refine (HP1.out W).mono ?_
    rintro e w1 ⟨rfl, hb1⟩
    have K1 := Lib.hid (Below.after' K0.out hb1 (Nat.le_refl _))
    clear hb1
    go_wp2_with fail
    refine (HP4.out w1).mono ?_
    rintro e w' ⟨rfl, rfl⟩
    by_cases hs : sm = fi
    · have E1 := Lib.hid (show Ma.take main [] p = 0 by rw [hT.out]; simp [hs])
      have u2 : ((bs sm).toList == (bs fi).toList) = true := by rw [bs_beq]; simp [hs]
      clear hs c0 c1
      go_wp2_with fail
      go_loopw [32] (fun u wr => u = .int .i64 0 ∧ wr = w1) (fun _ _ => 0)
      case atStart => exact ⟨rfl, rfl⟩
      case round =>
        obtain ⟨rfl, rfl⟩ := hrel
        go_wp2
        go_ret
        exact ⟨ret_int (by rw [E1.out]; rfl), K1.out⟩
    · have E1 := Lib.hid (show Ma.take main [] p = 8 by rw [hT.out]; simp [hs])
      have u2 : ((bs sm).toList == (bs fi).toList) = false := by rw [bs_beq]; simp [hs]
      clear hs c0 c1
      go_wp2
      go_ret
      exact ⟨ret_int (by rw [E1.out]; rfl), K1.out⟩
  · have u1 : ((ps.length : Int) == 0) = false := by
      rw [beq_eq_false_iff_ne]; intro h; exact h0 (List.eq_nil_of_length_eq_zero (by omega))
    have hT2 := Lib.hid (show Ma.take main ps p = if (ps.map fun q => Ma.small q.1).contains sm then 10 else 0 by rw [hT.out]; simp [h0])
    clear h0 c1
    go_wp2_with fail
    go_loopw [32] (fun u wr => ∃ i : Nat, i ≤ ps.length ∧ u = .int .i64 i ∧ wr.heap[w.heap.size]? = some (.cells #[.string (bs p.1), .string (bs p.2)] 44 (0, 0)) ∧ Below w.heap.size w wr ∧ ((ps.take i).map fun q => Ma.small q.1).contains sm = false) (fun u _ => ps.length - (intOf u).toNat)
    case atStart => exact ⟨0, Nat.zero_le _, rfl, Q.out, K0.out, rfl⟩
    case round =>
      obtain ⟨i, hil, rfl, hq, hB, hno⟩ := hrel
      have HB := Lib.hid hB
      have HQ := Lib.hid hq
      have hbs := (Array.getElem?_eq_some_iff.1 hq).1
      by_cases hi : i < ps.length
      · obtain ⟨g, o, r, rfl, hg, hr, c2, c3⟩ := (HX.out.grow hB).at_ hi
        have hrl := HL.out r (List.mem_of_getElem? hr)
        have HR1 := Lib.hid (fun w => rsmall_any r.1 w hrl)
        have htk := Lib.hid (show (ps.take (i + 1)).map (fun q => Ma.small q.1) = ((ps.take i).map fun q => Ma.small q.1) ++ [Ma.small r.1] by
          obtain ⟨h1, rfl⟩ := List.getElem?_eq_some_iff.1 hr
          rw [List.take_succ_eq_append_getElem h1, List.map_append]; rfl)
        have hat := Lib.hid (show Ma.small r.1 = sm → (ps.map fun q => Ma.small q.1).contains sm = true from fun e => by
          rw [List.contains_iff_mem, ← e]
          exact List.mem_map.2 ⟨r, List.mem_of_getElem? hr, rfl⟩)
        generalize Ma.small r.1 = sr at HR1 htk hat
        have HNO := Lib.hid hno
        clear hno hB hr hrl
        go_wp2_with fail
        have q2 : (wr.alloc (.cells #[.string (bs r.1), .string (bs r.2)] 44)).heap[wr.heap.size]? = some (.cells #[.string (bs r.1), .string (bs r.2)] 44 (0, 0)) := heap_alloc_new _ _
        have k2 := (Below.refl wr.heap.size wr).alloc (Nat.le_refl _) (.cells #[.string (bs r.1), .string (bs r.2)] 44)
        generalize wr.alloc (.cells #[.string (bs r.1), .string (bs r.2)] 44) = W2 at q2 k2 ⊢
        have c4 : W2.cell? ⟨wr.heap.size, 0, none⟩ = some (.string (bs r.1)) := (blk_facts q2).1 0
        have q3 := (k2.block _ hbs).trans HQ.out
        have c5 : W2.cell? ⟨w.heap.size, 0, none⟩ = some (.string (bs p.1)) := (blk_facts q3).1 0
        have K2 := Lib.hid (Below.after' HB.out k2 (Nat.le_refl _))
        have Q3 := Lib.hid q3
        have z1 : wr.heap.size < W2.heap.size := (Array.getElem?_eq_some_iff.1 q2).1
        have z2 : w.heap.size < W2.heap.size := (Array.getElem?_eq_some_iff.1 q3).1
        clear q2 q3 k2 hq c2 c3 c0
        by_cases he : sr = sm
        · have E1 := Lib.hid (show Ma.take main ps p = 10 by rw [hT2.out, hat.out he]; rfl)
          have u2 : ((bs sr).toList == (bs sm).toList) = true := by rw [bs_beq]; simp [he]
          clear he
          refine wp_region_grow (by kernel_rfl) (by kernel_rfl) ?_
          repeat (go_big_quiet_step ((go_at_call 20; first | with_reducible exact Gr.call (HR1.out _) | with_reducible exact Gr.call (HP1.out _))))
          refine wpQuiet_nil ?_
          intro g1
          obtain ⟨w1, hb1⟩ := g1
          have HB3 := Lib.hid (Below.after' K2.out hb1 (Nat.le_refl _))
          dsimp only
          clear hb1
          go_wp2
          go_ret
          exact ⟨ret_int (by rw [E1.out]; rfl), HB3.out⟩
        · have u2 : ((bs sr).toList == (bs sm).toList) = false := by rw [bs_beq]; simp [he]
          have hnx := Lib.hid (show ((ps.take (i + 1)).map fun q => Ma.small q.1).contains sm = false by
            rw [htk.out, Bool.eq_false_iff]
            intro h
            rw [List.contains_iff_mem, List.mem_append] at h
            rcases h with h | h
            · rw [← List.contains_iff_mem, HNO.out] at h; cases h
            · simp at h; exact he h.symm)
          clear he
          refine wp_region_grow (by kernel_rfl) (by kernel_rfl) ?_
          repeat (go_big_quiet_step ((go_at_call 20; first | with_reducible exact Gr.call (HR1.out _) | with_reducible exact Gr.call (HP1.out _))))
          refine wpQuiet_nil ?_
          intro g1
          obtain ⟨w1, hb1⟩ := g1
          have HB3 := Lib.hid (Below.after' K2.out hb1 (Nat.le_refl _))
          have hq3 := Lib.hid ((hb1.block _ z2).trans Q3.out)
          dsimp only
          clear hb1
          go_wp2
          go_roundw
          case rel => exact ⟨i + 1, by omega, by go_num, hq3.out, HB3.out, hnx.out⟩
          case measure => simp [intOf]; omega
      · rw [List.take_of_length_le (by omega)] at hno
        have E1 := Lib.hid (show Ma.take main ps p = 0 by rw [hT2.out, hno]; rfl)
        clear hno hB hq c0
        go_wp2
        go_ret
        exact ⟨ret_int (by rw [E1.out]; rfl), HB.out⟩
end Go.Proofs.Ytbjhnfemlpbchaa
