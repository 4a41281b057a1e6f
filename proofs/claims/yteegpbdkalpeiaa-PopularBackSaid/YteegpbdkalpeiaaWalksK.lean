/- The walk of layer 25: the favorites. -/
import Derived.Test.YteegpbdkalpeiaaWalksJ
import Derived.Test.YteegpbdkalpeiaaWalksH
namespace Go.Proofs.Yteegpbdkalpeiaa
open Go.RowKit Go.Maps

theorem Ints.take {w : World} {A : Option Addr} {c : Nat} {xs : List Int} (h : Ints w A c xs) (k : Nat) : Ints w A c (xs.take k) := by
  refine ⟨Nat.le_trans (by rw [List.length_take]; omega) h.1, fun hp => ?_⟩
  obtain ⟨g, o, e, hg, hc⟩ := h.2 (by rw [List.length_take] at hp; omega)
  refine ⟨g, o, e, hg, fun j x hx => hc j x ?_⟩
  have hjk : j < k := by
    obtain ⟨h1, _⟩ := List.getElem?_eq_some_iff.1 hx
    rw [List.length_take] at h1; omega
  rwa [List.getElem?_take_of_lt hjk] at hx
/-- The numbers that come twice, by their number. -/
def Po.f2 (l : List Int) (k : Int) : Int := if ((l.count k : Nat) : Int) < 2 then 0 else ((l.count k : Nat) : Int)
theorem is_of {l S : List Int} (h1 : ∀ x, x ∈ S ↔ Po.f2 l x ≠ 0) (h2 : S.Pairwise (befF (Po.f2 l))) : Po.Is l S := by
  have hf : ∀ x, x ∈ S → 2 ≤ l.count x ∧ Po.f2 l x = ((l.count x : Nat) : Int) := fun x hx => by
    have := (h1 x).1 hx
    unfold Po.f2 at this ⊢
    split
    · rename_i h; rw [if_pos h] at this; exact absurd rfl this
    · omega
  refine ⟨h2.imp_of_mem (fun {a b} ha hb h => ?_), fun v => ⟨fun hv => (hf v hv).1, fun hv => (h1 v).2 ?_⟩⟩
  · unfold befF at h
    rw [(hf a ha).2, (hf b hb).2] at h
    unfold Po.bef
    omega
  · unfold Po.f2
    rw [if_neg (by omega)]; omega
theorem size_struck {w : World} {b n : Nat} {D : DataW Unit} (hO : OMap w b n D) : Maps.size (Lib.deleteFuncD under2 D) ≤ Maps.size D := by
  obtain ⟨es, rfl, _, _⟩ := hO.entries lawI
  exact List.length_filter_le _ _

set_option maxHeartbeats 8000000 in
set_option maxRecDepth 100000 in
theorem fav_any (A : Option Addr) (c : Nat) (l : List Int) (most : Int) (w : World) (hx : Ints w A c l) (hI : ∀ x ∈ l, I64 x) (_hm : I64 most) (hn : l.length ≤ 100000) :
    Calls Try.prog 10 #[.slice A l.length c, .int .i64 most] w (FavRes l most w) := by
  have hmm := @run_makeMap Try.prog
  have HX := Lib.hid hx
  have HI := Lib.hid hI
  clear hx hI
  go_enter Try.func10, Try.ntmps10
  go_wp2_with fail
  go_loopw [12] (fun u wr => ∃ (i : Nat) (D : DataW Unit), i ≤ l.length ∧ u = .int .i64 i ∧ OMap wr w.heap.size i D ∧ MapIs D (fun k => ((l.take i).count k : Nat)) ∧ Maps.size D ≤ i ∧ wr.cell? ⟨w.heap.size + 1, 0, none⟩ = some (.map (some w.heap.size)) ∧ w.heap.size + 1 < wr.heap.size ∧ Below w.heap.size w wr) (fun u _ => l.length - (Go.RowKit.intOf u).toNat)
  case atStart => exact ⟨0, .map [], Nat.zero_le _, rfl, (World.ownsMap_made _ _ _ _).alloc _, MapIs.empty.same (fun x => rfl), Nat.le_refl _, by simp, by simp, ((Below.refl _ _).alloc (Nat.le_refl _) _).alloc (by simp) _⟩
  case round =>
    obtain ⟨i, D, hil, rfl, hown, hmap, hsz, hbox, hbl, hB⟩ := hrel
    have HB := Lib.hid hB
    have HO := Lib.hid hown
    have HM := Lib.hid hmap
    by_cases h1 : i < l.length
    · obtain ⟨g, o, x, rfl, hg, hxi, hcell⟩ := (HX.out.grow hB).at_ h1
      have hIx := HI.out x (List.mem_of_getElem? hxi)
      have hlook := look_run hown hmap hIx
      have htk := Lib.hid (take_snocI l i x hxi)
      have HIx := Lib.hid hIx
      have hcl : (l.take i).count x ≤ 1000000 := Nat.le_trans List.count_le_length (by rw [List.length_take]; omega)
      have hnew := Lib.hid (show ∀ k, (if k = x then (((l.take i).count x : Nat) : Int) + 1 else (((l.take i).count k : Nat) : Int)) = (((l.take (i + 1)).count k : Nat) : Int) from fun k => by
        rw [htk.out, count_snoc]
        by_cases e : k = x
        · subst e; rw [if_pos rfl, if_pos rfl]; omega
        · rw [if_neg e, if_neg (fun h => e h.symm)]; rfl)
      have hsp := size_put (HO.out.tidy lawI) (k := .int .i64 x) (.lit (.int .i64 (((l.take i).count x : Nat) + 1 : Int)))
      have HSP := Lib.hid hsp
      have HBX := Lib.hid hbox
      clear hB hown hmap hxi hIx hsp
      go_wp2_with (first | (at_mapUpdate; refine wpList_mapUpdate_own _ rfl _ _ _ 35 rfl 3 3 lawI Try.underlying35 _ w.heap.size i _ rfl HO.out (by unfold maxLen; omega) _ _ _ rfl rfl (keyI HIx.out) (.lit (.int .i64 (((l.take i).count x : Nat) + 1 : Int))) [] (plainElem_int Try.underlying3 (WalkArith.wf_i64 (by omega))) ?_; intro w1 hown1 hgrow1) | go_in)
      have hO1 := Lib.hid hown1
      have hB1 := Lib.hid (HB.out.grown hgrow1 HB.out.size (fun j hj => by cases hj; exact Nat.le_refl _))
      have hbox1 := Lib.hid ((World.cell?_of_block (a := ⟨w.heap.size + 1, 0, none⟩) (hgrow1.block (w.heap.size + 1) hbl (by simp))).trans HBX.out)
      have hbl1 := Nat.lt_of_lt_of_le hbl hgrow1.size
      clear hown1 hgrow1 hlook
      go_wp2
      go_roundw
      case rel =>
        refine ⟨i + 1, _, by omega, by go_num, hO1.out, (HM.out.put HO.out.isMap x _ (by omega)).same hnew.out, ?_, hbox1.out, hbl1, hB1.out⟩
        rw [HSP.out]
        split <;> omega
      case measure => simp [Go.RowKit.intOf]; omega
    · have hfin : l.take i = l := List.take_of_length_le (by omega)
      obtain rfl : i = l.length := by omega
      rw [hfin] at hmap
      have HM1 := Lib.hid (hmap.struck hown)
      have hs2 := size_struck hown
      have HBX := Lib.hid hbox
      have hdl := AnyDf.maps_DeleteFunc Try.delA lawI RI under2 17 #[] w.heap.size l.length D wr (enters_of Try.func17 (by kernel_rfl) rfl) hown (fun W key val kl yd yp _ hk hv => del1_any W key val kl yd yp hk hv)
      change Calls _ 16 _ _ _ at hdl
      have HDL := Lib.hid hdl
      clear hmap hfin hown hB hdl
      go_wp2_with fail
      refine HDL.out.mono ?_
      rintro e w1 ⟨rfl, hO1, hg1⟩
      have hbox1 := (World.cell?_of_block (a := ⟨w.heap.size + 1, 0, none⟩) (hg1.block (w.heap.size + 1) hbl (by simp))).trans HBX.out
      have hbl1 := Nat.lt_of_lt_of_le hbl hg1.size
      have HB1 := Lib.hid (HB.out.grown hg1 HB.out.size (fun j hj => by cases hj; exact Nat.le_refl _))
      have HO1 := Lib.hid (show OMap w1 w.heap.size l.length (Lib.deleteFuncD under2 D) from hO1)
      have hky := callsIn_wide.1 (AnyZI.keys_in Try.keysA Fence.wide 4 trivial rfl (some w.heap.size) w1)
      change Calls _ 19 _ _ (fun e w' => e = .returned (.func (.func 26) #[] #[.pointer (some ⟨w1.heap.size, 0, none⟩)]) ∧ w' = w1.alloc (.cells #[.map (some w.heap.size)] 35)) at hky
      have HK := Lib.hid hky
      clear hO1 hg1 HDL hky
      go_wp2_with fail
      refine HK.out.mono ?_
      rintro e w2 ⟨rfl, rfl⟩
      have hb2 : Below w1.heap.size w1 (w1.alloc (.cells #[.map (some w.heap.size)] 35)) := (Below.refl _ _).alloc (Nat.le_refl _) _
      have HST := Lib.hid (sorted_any _ (Po.f2 l) w.heap.size l.length (w.heap.size + 1) w1.heap.size (w1.alloc (.cells #[.map (some w.heap.size)] 35)) (OMap.keep HO1.out hb2) HM1.out ((hb2.cell (p := ⟨w.heap.size + 1, 0, none⟩) hbl1).trans hbox1) (by simp; omega) (by simp) (by simp) (by omega))
      have HB2 := Lib.hid (Below.after' HB1.out hb2 (Nat.le_refl _))
      have hz2 : w.heap.size ≤ (w1.alloc (.cells #[.map (some w.heap.size)] 35)).heap.size := HB2.out.size
      clear hb2 HK
      generalize w1.alloc (.cells #[.map (some w.heap.size)] 35) = w2 at *
      go_wp2_with fail
      refine HST.out.mono ?_
      rintro e w3 ⟨v, S, rfl, hrow, hmem, hpw, hb3⟩
      have hIs := is_of hmem hpw
      have HFT := Lib.hid (Po.favs_take hIs most.toNat)
      have hSl : S.length ≤ 100000 := Nat.le_trans (length_le_sub S l (hpw.imp (fun {a b} h e => by subst e; unfold befF at h; omega)) (fun v hv => List.count_pos_iff.1 (by have := (hIs.2 v).1 hv; omega))) hn
      obtain ⟨A2, c2, rfl, hrd⟩ := hrow.reads
      have HR := Lib.hid hrd
      have HB3 := Lib.hid (Below.after' HB2.out hb3 (Nat.le_refl _))
      have hcap := hrd.1
      clear hrow hrd hb3 HST hIs hmem hpw
      go_wp2_with fail
      go_ret
      refine ⟨A2, c2, ?_, by rw [HFT.out]; exact HR.out.take _, HB3.out⟩
      have elen : (max (min most (S.length : Int)) 0).toNat = (Po.favs l most.toNat).length := by rw [HFT.out, List.length_take]; omega
      rw [← elen]
      rfl
end Go.Proofs.Yteegpbdkalpeiaa
