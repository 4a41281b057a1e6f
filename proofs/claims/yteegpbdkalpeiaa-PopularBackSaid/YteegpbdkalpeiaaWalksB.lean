/- The walk of layer 25: places. -/
import Derived.Test.YteegpbdkalpeiaaMapI
namespace Go.Proofs.Yteegpbdkalpeiaa
open Go.RowKit Go.Maps

theorem nodup_snoc (l : List Int) (x : Int) : (l ++ [x]).Nodup ↔ l.Nodup ∧ x ∉ l := by
  rw [List.nodup_append]
  simp
  intro _
  exact ⟨fun h hx => h x hx rfl, fun h a ha e => h (e ▸ ha)⟩
/-- What the places' map is. -/
def PMap (w : World) (b : Nat) (fs : List Int) : Prop :=
  ∃ D, OMap w b fs.length D ∧ MapIs D (fun k => (Po.at fs k : Nat)) ∧ (Maps.size D < fs.length ↔ ¬ fs.Nodup)
theorem PMap.keep {w w' : World} {b : Nat} {fs : List Int} (h : PMap w b fs) (k : Below w.heap.size w w') : PMap w' b fs := by
  obtain ⟨D, h1, h2⟩ := h
  exact ⟨D, h1.keep k, h2⟩

set_option maxHeartbeats 4000000 in
set_option maxRecDepth 100000 in
theorem places_any (A : Option Addr) (c : Nat) (fs : List Int) (w : World) (hx : Ints w A c fs) (hI : ∀ x ∈ fs, I64 x) (hn : fs.length ≤ 1000000) :
    Calls Try.prog 15 #[.slice A fs.length c] w fun e w' => e = .returned (.map (some w.heap.size)) ∧ PMap w' w.heap.size fs ∧ Below w.heap.size w w' := by
  have hmm := @run_makeMap Try.prog
  have HX := Lib.hid hx
  have HI := Lib.hid hI
  clear hx hI
  go_enter Try.func15, Try.ntmps15
  go_wp2_with fail
  go_loopw [9] (fun u wr => ∃ (i : Nat) (D : DataW Unit), i ≤ fs.length ∧ u = .int .i64 i ∧ OMap wr w.heap.size i D ∧ MapIs D (fun k => (Po.at (fs.take i) k : Nat)) ∧ Maps.size D ≤ i ∧ (Maps.size D = i ↔ (fs.take i).Nodup) ∧ Below w.heap.size w wr) (fun u _ => fs.length - (intOf u).toNat)
  case atStart => exact ⟨0, .map [], Nat.zero_le _, rfl, World.ownsMap_made _ _ _ _, MapIs.empty, Nat.le_refl _, by simp [Maps.size], (Below.refl _ _).alloc (Nat.le_refl _) _⟩
  case round =>
    obtain ⟨i, D, hil, rfl, hown, hmap, hsz, hnd, hB⟩ := hrel
    have HB := Lib.hid hB
    have HO := Lib.hid hown
    have HM := Lib.hid hmap
    have HN := Lib.hid hnd
    by_cases h1 : i < fs.length
    · obtain ⟨g, o, x, rfl, hg, hxi, hcell⟩ := (HX.out.grow hB).at_ h1
      have hIx := HI.out x (List.mem_of_getElem? hxi)
      have hlook := look_run hown hmap hIx
      have htk := Lib.hid (take_snocI fs i x hxi)
      have hli : (fs.take i).length = i := by rw [List.length_take]; omega
      have HIx := Lib.hid hIx
      have hpl : Po.at (fs.take i) x ≤ i := by have := Po.at_le (fs.take i) x; omega
      clear hB hown hmap hnd hxi hIx
      by_cases h0 : Po.at (fs.take i) x = 0
      · have q : (((Po.at (fs.take i) x : Nat) : Int) == 0) = true := by simp [h0]
        have hnew := Lib.hid (show ∀ k, (if k = x then ((i + 1 : Nat) : Int) else ((Po.at (fs.take i) k : Nat) : Int)) = ((Po.at (fs.take (i + 1)) k : Nat) : Int) from fun k => by
          rw [htk.out, Po.at_snoc, hli]
          by_cases e : k = x
          · subst e; rw [if_pos rfl, h0]; simp
          · rw [if_neg e]
            have e2 : ¬ x = k := fun h => e h.symm
            rw [if_neg e2]
            split
            · rfl
            · rename_i h3; rw [Classical.not_not.1 h3])
        have hnotin := Lib.hid (Po.at_zero.1 h0)
        have hhas : Maps.has D (.int .i64 x) = false := by rw [HM.out.2 x]; simp [h0]
        have hsp := size_put (HO.out.tidy lawI) (k := .int .i64 x) (.lit (.int .i64 ((i + 1 : Nat) : Int)))
        rw [hhas] at hsp
        have HSP := Lib.hid hsp
        clear h0 hhas hsp
        go_wp2_with (first | (at_mapUpdate; refine wpList_mapUpdate_own _ rfl _ _ _ 35 rfl 3 3 lawI Try.underlying35 _ w.heap.size i _ rfl HO.out (by unfold maxLen; omega) _ _ _ rfl rfl (keyI HIx.out) (.lit (.int .i64 ((i + 1 : Nat) : Int))) [] (plainElem_int Try.underlying3 (WalkArith.wf_i64 (by omega))) ?_; intro w1 hown1 hgrow1) | go_in)
        have hO1 := Lib.hid hown1
        have hB1 := Lib.hid (HB.out.grown hgrow1 HB.out.size (fun j hj => by cases hj; exact Nat.le_refl _))
        clear hown1 hgrow1 hlook
        go_wp2
        go_roundw
        case rel =>
          refine ⟨i + 1, _, by omega, by go_num, hO1.out, (HM.out.put HO.out.isMap x _ (by omega)).same hnew.out, ?_, ?_, hB1.out⟩
          · rw [HSP.out]; simp; omega
          · rw [HSP.out, htk.out, nodup_snoc, ← HN.out]
            simp [hnotin.out]
        case measure => simp [intOf]; omega
      · have q : (((Po.at (fs.take i) x : Nat) : Int) == 0) = false := by simp [h0]
        have hnew := Lib.hid (show ∀ k, ((Po.at (fs.take i) k : Nat) : Int) = ((Po.at (fs.take (i + 1)) k : Nat) : Int) from fun k => by
          rw [htk.out, Po.at_snoc]
          by_cases e : Po.at (fs.take i) k = 0
          · have e2 : ¬ x = k := fun h => h0 (by rw [h]; exact e)
            simp [e, e2]
          · simp [e])
        have hin := Lib.hid (show x ∈ fs.take i from Classical.not_not.1 (fun h => h0 (Po.at_zero.2 h)))
        clear h0
        go_wp2
        go_roundw
        case rel =>
          refine ⟨i + 1, D, by omega, by go_num, HO.out.mono (by omega), HM.out.same hnew.out, by omega, ?_, HB.out⟩
          rw [htk.out, nodup_snoc]
          simp [hin.out]
          omega
        case measure => simp [intOf]; omega
    · have hfin : fs.take i = fs := List.take_of_length_le (by omega)
      obtain rfl : i = fs.length := by omega
      rw [hfin] at hmap hnd
      have hP := Lib.hid (show PMap wr w.heap.size fs from ⟨D, hown, hmap, by rw [← hnd]; omega⟩)
      clear hown hmap hnd hB
      go_wp2
      go_ret
      exact ⟨rfl, hP.out, HB.out⟩
end Go.Proofs.Yteegpbdkalpeiaa
