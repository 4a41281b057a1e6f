/- Joined texts: PpWalksK, BdG, BdH, BdI, BdJ, Rcur, RhA, RhB. -/
import Derived.Test.YtbdkoagagcemcaaPk5
import Derived.Test.YtbdkoagagcemcaaPk4
import Derived.Test.YtbdkoagagcemcaaPk3
import Derived.BigRegion
import Derived.Deep.RegionLaw
/- The walk of layer 25: the favorites. -/
namespace Go.Proofs.Ytbdkoagagcemcaa.Pp
open Go.RowKit Go.Maps

theorem _root_.Go.Proofs.Ytbdkoagagcemcaa.Ints.take {w : World} {A : Option Addr} {c : Nat} {xs : List Int} (h : Ints w A c xs) (k : Nat) : Ints w A c (xs.take k) := by
  refine ⟨Nat.le_trans (by rw [List.length_take]; omega) h.1, fun hp => ?_⟩
  obtain ⟨g, o, e, hg, hc⟩ := h.2 (by rw [List.length_take] at hp; omega)
  refine ⟨g, o, e, hg, fun j x hx => hc j x ?_⟩
  have hjk : j < k := by
    obtain ⟨h1, _⟩ := List.getElem?_eq_some_iff.1 hx
    rw [List.length_take] at h1; omega
  rwa [List.getElem?_take_of_lt hjk] at hx
/-- The numbers that come twice, by their number. -/
def Po.f2 (l : List Int) (k : Int) : Int := if ((l.count k : Nat) : Int) < 2 then 0 else ((l.count k : Nat) : Int)
theorem is_of {l S : List Int} (h1 : ∀ x, x ∈ S ↔ Po.f2 l x ≠ 0) (h2 : S.Pairwise (befF (Po.f2 l))) : Po.Is l S := by
  have hf : ∀ x, x ∈ S → 2 ≤ l.count x ∧ Po.f2 l x = ((l.count x : Nat) : Int) := fun x hx => by
    have := (h1 x).1 hx
    unfold Po.f2 at this ⊢
    split
    · rename_i h; rw [if_pos h] at this; exact absurd rfl this
    · omega
  refine ⟨h2.imp_of_mem (fun {a b} ha hb h => ?_), fun v => ⟨fun hv => (hf v hv).1, fun hv => (h1 v).2 ?_⟩⟩
  · unfold befF at h
    rw [(hf a ha).2, (hf b hb).2] at h
    unfold Po.bef
    omega
  · unfold Po.f2
    rw [if_neg (by omega)]; omega
theorem size_struck {w : World} {b n : Nat} {D : DataW Unit} (hO : OMap w b n D) : Maps.size (Lib.deleteFuncD under2 D) ≤ Maps.size D := by
  obtain ⟨es, rfl, _, _⟩ := hO.entries lawI
  exact List.length_filter_le _ _

set_option maxHeartbeats 8000000 in
set_option maxRecDepth 100000 in
theorem fav_any (A : Option Addr) (c : Nat) (l : List Int) (most : Int) (w : World) (hx : Ints w A c l) (hI : ∀ x ∈ l, I64 x) (_hm : I64 most) (hn : l.length ≤ 100000) :
    Calls Try.prog 51 #[.slice A l.length c, .int .i64 most] w (FavRes l most w) := by
  have hmm := @run_makeMap Try.prog
  have HX := Lib.hid hx
  have HI := Lib.hid hI
  clear hx hI
  go_enter Try.func51, Try.ntmps51
  go_wp2_with fail
  go_loopw [12] (fun u wr => ∃ (i : Nat) (D : DataW Unit), i ≤ l.length ∧ u = .int .i64 i ∧ OMap wr w.heap.size i D ∧ MapIs D (fun k => ((l.take i).count k : Nat)) ∧ Maps.size D ≤ i ∧ wr.cell? ⟨w.heap.size + 1, 0, none⟩ = some (.map (some w.heap.size)) ∧ w.heap.size + 1 < wr.heap.size ∧ Below w.heap.size w wr) (fun u _ => l.length - (Go.RowKit.intOf u).toNat)
  case atStart => exact ⟨0, .map [], Nat.zero_le _, rfl, (World.ownsMap_made _ _ _ _).alloc _, MapIs.empty.same (fun x => rfl), Nat.le_refl _, by simp, by simp, ((Below.refl _ _).alloc (Nat.le_refl _) _).alloc (by simp) _⟩
  case round =>
    obtain ⟨i, D, hil, rfl, hown, hmap, hsz, hbox, hbl, hB⟩ := hrel
    have HB := Lib.hid hB
    have HO := Lib.hid hown
    have HM := Lib.hid hmap
    by_cases h1 : i < l.length
    · obtain ⟨g, o, x, rfl, hg, hxi, hcell⟩ := (HX.out.grow hB).at_ h1
      have hIx := HI.out x (List.mem_of_getElem? hxi)
      have hlook := look_run hown hmap hIx
      have htk := Lib.hid (take_snocI l i x hxi)
      have HIx := Lib.hid hIx
      have hcl : (l.take i).count x ≤ 1000000 := Nat.le_trans List.count_le_length (by rw [List.length_take]; omega)
      have hnew := Lib.hid (show ∀ k, (if k = x then (((l.take i).count x : Nat) : Int) + 1 else (((l.take i).count k : Nat) : Int)) = (((l.take (i + 1)).count k : Nat) : Int) from fun k => by
        rw [htk.out, count_snoc]
        by_cases e : k = x
        · subst e; rw [if_pos rfl, if_pos rfl]; omega
        · rw [if_neg e, if_neg (fun h => e h.symm)]; rfl)
      have hsp := size_put (HO.out.tidy lawI) (k := .int .i64 x) (.lit (.int .i64 (((l.take i).count x : Nat) + 1 : Int)))
      have HSP := Lib.hid hsp
      have HBX := Lib.hid hbox
      clear hB hown hmap hxi hIx hsp
      go_wp2_with (first | (at_mapUpdate; refine wpList_mapUpdate_own _ rfl _ _ _ 92 rfl 3 3 lawI Try.underlying92 _ w.heap.size i _ rfl HO.out (by unfold maxLen; omega) _ _ _ rfl rfl (keyI HIx.out) (.lit (.int .i64 (((l.take i).count x : Nat) + 1 : Int))) [] (plainElem_int Try.underlying3 (WalkArith.wf_i64 (by omega))) ?_; intro w1 hown1 hgrow1) | go_in)
      have hO1 := Lib.hid hown1
      have hB1 := Lib.hid (HB.out.grown hgrow1 HB.out.size (fun j hj => by cases hj; exact Nat.le_refl _))
      have hbox1 := Lib.hid ((World.cell?_of_block (a := ⟨w.heap.size + 1, 0, none⟩) (hgrow1.block (w.heap.size + 1) hbl (by simp))).trans HBX.out)
      have hbl1 := Nat.lt_of_lt_of_le hbl hgrow1.size
      clear hown1 hgrow1 hlook
      go_wp2
      go_roundw
      case rel =>
        refine ⟨i + 1, _, by omega, by go_num, hO1.out, (HM.out.put HO.out.isMap x _ (by omega)).same hnew.out, ?_, hbox1.out, hbl1, hB1.out⟩
        rw [HSP.out]
        split <;> omega
      case measure => simp [Go.RowKit.intOf]; omega
    · have hfin : l.take i = l := List.take_of_length_le (by omega)
      obtain rfl : i = l.length := by omega
      rw [hfin] at hmap
      have HM1 := Lib.hid (hmap.struck hown)
      have hs2 := size_struck hown
      have HBX := Lib.hid hbox
      have hdl := AnyDf.maps_DeleteFunc Try.delA lawI RI under2 74 #[] w.heap.size l.length D wr (enters_of Try.func74 (by kernel_rfl) rfl) hown (fun W key val kl yd yp _ hk hv => del1_any W key val kl yd yp hk hv)
      change Calls _ 73 _ _ _ at hdl
      have HDL := Lib.hid hdl
      clear hmap hfin hown hB hdl
      go_wp2_with fail
      refine HDL.out.mono ?_
      rintro e w1 ⟨rfl, hO1, hg1⟩
      have hbox1 := (World.cell?_of_block (a := ⟨w.heap.size + 1, 0, none⟩) (hg1.block (w.heap.size + 1) hbl (by simp))).trans HBX.out
      have hbl1 := Nat.lt_of_lt_of_le hbl hg1.size
      have HB1 := Lib.hid (HB.out.grown hg1 HB.out.size (fun j hj => by cases hj; exact Nat.le_refl _))
      have HO1 := Lib.hid (show OMap w1 w.heap.size l.length (Lib.deleteFuncD under2 D) from hO1)
      have hky := callsIn_wide.1 (AnyZI.keys_in Try.keysA Fence.wide 4 trivial rfl (some w.heap.size) w1)
      change Calls _ 76 _ _ (fun e w' => e = .returned (.func (.func 97) #[] #[.pointer (some ⟨w1.heap.size, 0, none⟩)]) ∧ w' = w1.alloc (.cells #[.map (some w.heap.size)] 92)) at hky
      have HK := Lib.hid hky
      clear hO1 hg1 HDL hky
      go_wp2_with fail
      refine HK.out.mono ?_
      rintro e w2 ⟨rfl, rfl⟩
      have hb2 : Below w1.heap.size w1 (w1.alloc (.cells #[.map (some w.heap.size)] 92)) := (Below.refl _ _).alloc (Nat.le_refl _) _
      have HST := Lib.hid (sorted_any _ (Po.f2 l) w.heap.size l.length (w.heap.size + 1) w1.heap.size (w1.alloc (.cells #[.map (some w.heap.size)] 92)) (OMap.keep HO1.out hb2) HM1.out ((hb2.cell (p := ⟨w.heap.size + 1, 0, none⟩) hbl1).trans hbox1) (by simp; omega) (by simp) (by simp) (by omega))
      have HB2 := Lib.hid (Below.after' HB1.out hb2 (Nat.le_refl _))
      have hz2 : w.heap.size ≤ (w1.alloc (.cells #[.map (some w.heap.size)] 92)).heap.size := HB2.out.size
      clear hb2 HK
      generalize w1.alloc (.cells #[.map (some w.heap.size)] 92) = w2 at *
      go_wp2_with fail
      refine HST.out.mono ?_
      rintro e w3 ⟨v, S, rfl, hrow, hmem, hpw, hb3⟩
      have hIs := is_of hmem hpw
      have HFT := Lib.hid (Po.favs_take hIs most.toNat)
      have hSl : S.length ≤ 100000 := Nat.le_trans (length_le_sub S l (hpw.imp (fun {a b} h e => by subst e; unfold befF at h; omega)) (fun v hv => List.count_pos_iff.1 (by have := (hIs.2 v).1 hv; omega))) hn
      obtain ⟨A2, c2, rfl, hrd⟩ := hrow.reads
      have HR := Lib.hid hrd
      have HB3 := Lib.hid (Below.after' HB2.out hb3 (Nat.le_refl _))
      have hcap := hrd.1
      clear hrow hrd hb3 HST hIs hmem hpw
      go_wp2_with fail
      go_ret
      refine ⟨A2, c2, ?_, by rw [HFT.out]; exact HR.out.take _, HB3.out⟩
      have elen : (max (min most (S.length : Int)) 0).toNat = (Po.favs l most.toNat).length := by rw [HFT.out, List.length_take]; omega
      rw [← elen]
      rfl
end Go.Proofs.Ytbdkoagagcemcaa.Pp
/- The walk of layer 26: a row by its favorites. -/
namespace Go.Proofs.Ytbdkoagagcemcaa
open Go.RowKit Pp

/-- Rows in their shortest codings, one behind the other. -/
def joinS : List (List Int) → Option (List UInt8)
  | [] => some []
  | x :: xs => match short x with
    | none => none
    | some s => preB s (joinS xs)
theorem joinS_none {x : List Int} (xs : List (List Int)) (h : short x = none) : joinS (x :: xs) = none := by unfold joinS; rw [h]
theorem joinS_some {x : List Int} {s : List UInt8} (xs : List (List Int)) (h : short x = some s) : joinS (x :: xs) = preB s (joinS xs) := by conv => lhs; unfold joinS; rw [h]
theorem fav_none {l : List Int} {many : Nat} (h : Po.favs l many = []) : fav l many = none := if_pos h
theorem fav_join {l : List Int} {many : Nat} (h : Po.favs l many ≠ []) : fav l many = preB [255, UInt8.ofNat (Po.favs l many).length] (joinS [Po.favs l many, Po.tokens (Po.favs l many) l, Po.left (Po.favs l many) l]) := by
  unfold fav
  rw [if_neg h]
  cases h1 : short (Po.favs l many) with
  | none => rw [joinS_none _ h1]; rfl
  | some a =>
    rw [joinS_some _ h1]
    dsimp only
    cases h2 : short (Po.tokens (Po.favs l many) l) with
    | none => rw [joinS_none _ h2]; rfl
    | some b =>
      rw [joinS_some _ h2]
      dsimp only
      cases h3 : short (Po.left (Po.favs l many) l) with
      | none => rw [joinS_none _ h3]; rfl
      | some c =>
        rw [joinS_some _ h3]
        simp [joinS, preB]
theorem freshB2 {x : World} {B base : Nat} {y z : Int} (h : x.heap[B]? = some (.cells #[.int .u8 y, .int .u8 z] 5 (0, 0))) (hb : base ≤ B) (a b : UInt8) (ha : y = (a.toNat : Int)) (hb2 : z = (b.toNat : Int)) : BRow x base 5 (.slice (some ⟨B, 0, none⟩) 2 2) [a, b] := by
  subst ha hb2
  exact ⟨rfl, .inr ⟨B, 2, _, rfl, hb, h, Nat.le_refl _, by unfold maxLen; omega, rfl, rfl⟩⟩
theorem tokens_i64 (fs l : List Int) (h : fs.length ≤ 1000000) : ∀ v ∈ Po.tokens fs l, I64 v := fun v hv => by
  unfold Po.tokens at hv
  obtain ⟨x, _, rfl⟩ := List.mem_map.1 hv
  have := Po.at_le fs x
  unfold I64
  omega
theorem short_len {l : List Int} {s : List UInt8} (h : short l = some s) : s.length ≤ 5 * l.length + 1 ∧ 0 < s.length := by
  have hs := shortTo_is l 15
  rw [show shortTo l 15 = some s from h] at hs
  obtain ⟨⟨i, c, b, _, h2, h3, rfl⟩, _⟩ := hs
  have := row_lenB c (cods_ok c (List.mem_of_getElem? h2)) l 0 b h3
  simp only [List.length_cons]
  omega
theorem hop_grown {W0 w w1 : World} {B : Nat} {v v' : Value} (h : W0.grownBy w (some B)) (hp : Hop w w1 v.ownBlock v'.ownBlock) (ho : v.ownBlock = some B ∨ ∀ g, v.ownBlock = some g → W0.heap.size ≤ g) :
    W0.grownBy w1 (some B) ∧ (v'.ownBlock = some B ∨ ∀ g, v'.ownBlock = some g → W0.heap.size ≤ g) := by
  refine ⟨grownBy_trans h hp.1 ho, ?_⟩
  rcases hp.2 with e | ⟨g, hg, e⟩
  · rw [e]; exact ho
  · refine .inr fun k hk => ?_
    rw [e] at hk
    cases hk
    exact Nat.le_trans h.size hg
set_option maxHeartbeats 8000000 in
set_option maxRecDepth 100000 in
theorem favored_any (A : Option Addr) (cc : Nat) (l : List Int) (w : World) (hx : Ints w A cc l) (hI : ∀ v ∈ l, I64 v) (hl : l.length ≤ 100000) (many : Nat) (hm : many ≤ 15) :
    Calls Try.prog 29 #[.slice A l.length cc, .int .i64 many] w fun ex y => ∃ v, ex = .returned v ∧ BestIs y w.heap.size v (fav l many) ∧ Below w.heap.size w y := by
  have HX := Lib.hid hx
  have HI := Lib.hid hI
  have HF := Lib.hid (fav_any A cc l (many : Int) w hx hI (by unfold I64; omega) hl)
  unfold FavRes at HF
  rw [Int.toNat_natCast] at HF
  have hfl := favs_bound l many hm
  have hfm := (Po.favs_facts l many).2
  have hfn := Lib.hid (fun h => fav_none (l := l) (many := many) h)
  have hfj := Lib.hid (fun h => fav_join (l := l) (many := many) h)
  have HFI := Lib.hid (show ∀ v ∈ Po.favs l many, I64 v from fun v hv => hI v (by
    have := hfm v hv
    exact List.count_pos_iff.1 (by omega)))
  clear hx hI hfm
  generalize Po.favs l many = fs at *
  generalize fav l many = fo at *
  go_enter Try.func29, Try.ntmps29
  go_wp2_with fail
  refine HF.out.mono ?_
  rintro ex y ⟨A1, c1, rfl, hi1, hb1⟩
  have HI1 := Lib.hid hi1
  have HB1 := Lib.hid hb1
  clear hb1 HF
  by_cases h0 : fs = []
  · have q : ((fs.length : Int) == 0) = true := by rw [h0]; rfl
    have hfin := Lib.hid (hfn.out h0)
    clear h0 hi1
    go_wp2_with fail
    go_ret
    exact ⟨_, rfl, by rw [hfin.out]; rfl, HB1.out⟩
  · have hpos : 1 ≤ fs.length := List.length_pos_iff.2 h0
    have q : ((fs.length : Int) == 0) = false := by simp; omega
    have hfin := Lib.hid (hfj.out h0)
    clear h0 hi1
    go_wp2_with fail
    have HG1 := Lib.hid (show ∀ g o, A1 = some ⟨g, o, none⟩ → some g ≠ some y.heap.size from fun g o e e2 => by
      obtain ⟨g', o', e', hg, _⟩ := HI1.out.2 (by omega)
      rw [e] at e'
      injection e' with e'
      injection e' with e'
      injection e2 with e2
      omega)
    have k1 := (Below.refl y.heap.size y).alloc (Nat.le_refl _) (.cells #[.int .u8 255, .int .u8 (fs.length : Int)] 5)
    have HSp := Lib.hid (split_any A A1 cc c1 l fs _ (HX.out.grow (Below.after' HB1.out k1 (Nat.le_refl _))) (HI1.out.grow k1) HI.out HFI.out hl (by omega))
    have HBf := Lib.hid (freshB2 (base := w.heap.size) (heap_alloc_new y (.cells #[.int .u8 255, .int .u8 (fs.length : Int)] 5)) HB1.out.size 255 (UInt8.ofNat fs.length) rfl (by rw [ofNat_lt (by omega)]))
    have HI1b := Lib.hid (HI1.out.grow k1)
    have HB1b := Lib.hid (Below.after' HB1.out k1 (Nat.le_refl _))
    clear k1 HI1 HB1
    refine HSp.out.mono ?_
    rintro ex z ⟨v1, v2, rfl, hr1, hr2, hb2⟩
    obtain ⟨A2, c2, rfl, hi2, hg2⟩ := hr1.readsB
    obtain ⟨A3, c3, rfl, hi3, hg3⟩ := hr2.readsB
    have HG2 := Lib.hid (show ∀ g o, A2 = some ⟨g, o, none⟩ → some g ≠ some y.heap.size from fun g o e e2 => by
      have := hg2 g o e
      injection e2 with e2
      simp at this
      omega)
    have HG3 := Lib.hid (show ∀ g o, A3 = some ⟨g, o, none⟩ → some g ≠ some y.heap.size from fun g o e e2 => by
      have := hg3 g o e
      injection e2 with e2
      simp at this
      omega)
    have HZ := Lib.hid (show y.heap.size < z.heap.size from Nat.lt_of_lt_of_le (by simp) hb2.size)
    have htl : (Po.tokens fs l).length = l.length := by unfold Po.tokens; rw [List.length_map]
    have hll : (Po.left fs l).length ≤ l.length := List.length_filter_le _ _
    have HT := Lib.hid (tokens_i64 fs l (by omega))
    have HLf := Lib.hid (show ∀ v ∈ Po.left fs l, I64 v from fun v hv => HI.out v ((List.mem_filter.1 hv).1))
    have HI1c := Lib.hid (HI1b.out.grow hb2)
    have HI2 := Lib.hid hi2
    have HI3 := Lib.hid hi3
    have HB2 := Lib.hid (Below.after' HB1b.out hb2 (Nat.le_refl _))
    have HBg := Lib.hid (HBf.out.grow hb2)
    have HTL := Lib.hid htl
    clear hr1 hr2 hb2 hi2 hi3 hg2 hg3 HSp HI1b HB1b HBf htl
    generalize Po.tokens fs l = ts at *
    generalize Po.left fs l = rs at *
    go_wp2_with fail
    have k2 := (Below.refl z.heap.size z).alloc (Nat.le_refl _) (.cells #[.slice A1 fs.length c1, .slice A2 ts.length c2, .slice A3 rs.length c3] 22)
    have hblk := heap_alloc_new z (.cells #[.slice A1 fs.length c1, .slice A2 ts.length c2, .slice A3 rs.length c3] 22)
    have HK2 := Lib.hid k2
    have HBK := Lib.hid hblk
    clear k2 hblk
    generalize hW0 : z.alloc (.cells #[.slice A1 fs.length c1, .slice A2 ts.length c2, .slice A3 rs.length c3] 22) = W0 at *
    have hws := Lib.hid (show z.heap.size < W0.heap.size by rw [← hW0]; simp)
    clear hW0
    have HJ1 := Lib.hid (HI1c.out.grow HK2.out)
    have HJ2 := Lib.hid (HI2.out.grow HK2.out)
    have HJ3 := Lib.hid (HI3.out.grow HK2.out)
    go_loopw [6, 34] (fun v t wr => ∃ (i : Nat) (acc : List UInt8), i ≤ 3 ∧ t = .int .i64 i ∧ BRow wr w.heap.size 5 v acc ∧ 0 < acc.length ∧ acc.length ≤ 600000 * i + 2 ∧ preB acc (joinS ([fs, ts, rs].drop i)) = fo ∧ Below w.heap.size w wr ∧ W0.grownBy wr (some y.heap.size) ∧ (v.ownBlock = some y.heap.size ∨ ∀ g, v.ownBlock = some g → W0.heap.size ≤ g)) (fun _ t _ => 3 - (intOf t).toNat)
    case atStart => exact ⟨0, _, by omega, rfl, HBg.out.grow HK2.out, by simp, by simp, by rw [hfin.out]; rfl, Below.after' HB2.out HK2.out (Nat.le_refl _), World.grownBy.refl _ _, .inl rfl⟩
    case round =>
      obtain ⟨i, acc, hi, rfl, hrow, hac, hal, hfo, hB, hgr, hown⟩ := hrel
      obtain ⟨Aa, ca, rfl, _⟩ := hrow.at_
      have HR := Lib.hid hrow
      have HFO := Lib.hid hfo
      have HW := Lib.hid hB
      have HGR := Lib.hid hgr
      have HOW := Lib.hid hown
      clear hfo hown
      by_cases h1 : i < 3
      · -- the row of number i
        have hrow9 : ∃ (P : List Int) (Ap : Option Addr) (cp : Nat), ([fs, ts, rs])[i]? = some P ∧ wr.cell? ⟨z.heap.size, i, none⟩ = some (.slice Ap P.length cp) ∧ Ints wr Ap cp P ∧ (∀ v ∈ P, I64 v) ∧ P.length ≤ 100000 := by
          have hb9 := (blk_facts ((hgr.block z.heap.size hws.out (by intro e; injection e with e; have := HZ.out; omega)).trans HBK.out)).1
          obtain rfl | rfl | rfl : i = 0 ∨ i = 1 ∨ i = 2 := by omega
          · exact ⟨fs, A1, c1, rfl, hb9 0, HJ1.out.kept hgr HG1.out, HFI.out, by omega⟩
          · exact ⟨ts, A2, c2, rfl, hb9 1, HJ2.out.kept hgr HG2.out, HT.out, by have := HTL.out; omega⟩
          · exact ⟨rs, A3, c3, rfl, hb9 2, HJ3.out.kept hgr HG3.out, HLf.out, by omega⟩
        obtain ⟨P, Ap, cp, hPi, hcell, hPI, hP64, hPl⟩ := hrow9
        have hz9 : z.heap.size < wr.heap.size := Nat.lt_of_lt_of_le hws.out hgr.size
        have hdr := Lib.hid (drop_atI hPi)
        have HSh := Lib.hid (shortest_any Ap cp P wr hPI hP64 (by omega))
        have hw9 := hB.size
        have p1 : decide ((i : Int) < 3) = true := decide_eq_true (by omega)
        clear hPi hPI hP64 hrow hB hgr
        go_wp2_with fail
        refine HSh.out.mono ?_
        intro ex w5 hres
        cases hs : short P with
        | none =>
          rw [hs] at hres
          obtain ⟨rfl, hb5⟩ := hres
          have hf := HFO.out
          rw [hdr.out, joinS_none _ hs] at hf
          have hfin9 := Lib.hid (show fo = none from hf.symm)
          have HB5 := Lib.hid (Below.after' HW.out hb5 (Nat.le_refl _))
          clear hf hb5 hs
          go_wp2_with fail
          go_ret
          exact ⟨_, rfl, by rw [hfin9.out]; rfl, HB5.out⟩
        | some sx =>
          rw [hs] at hres
          obtain ⟨u, rfl, hr5, hb5⟩ := hres
          obtain ⟨A5, c5, rfl, hba⟩ := hr5.at_
          have hsl := short_len hs
          have hf := HFO.out
          rw [hdr.out, joinS_some _ hs, preB_pre] at hf
          have HF9 := Lib.hid hf
          have HBA := Lib.hid hba
          have HR5 := Lib.hid (HR.out.grow hb5)
          have HW5 := Lib.hid (Below.after' HW.out hb5 (Nat.le_refl _))
          have HG5 := Lib.hid (grownBy_trans HGR.out (grownBy_below hb5 none) (.inr fun g e => by cases e))
          clear hf hb5 hs hba hr5 HSh
          go_wp2_with (at_builtin; refine wpList_appBy rfl _ _ _ rfl w.heap.size _ acc sx rfl HR5.out _ rfl HBA.out.src (by omega) HW5.out.size ?_; intro v6 w6 hr6 hp6; have HR6 := Lib.hid hr6; have HW6 := Lib.hid (HW5.out.trans (hop_base HR5.out hp6 (Nat.le_refl _) HW5.out.size)); have HG6 := Lib.hid (hop_grown HG5.out hp6 HOW.out); clear hr6 hp6)
          go_roundw
          case rel => exact ⟨i + 1, acc ++ sx, by omega, by go_num, HR6.out, by simp; omega, by simp only [List.length_append]; omega, HF9.out, HW6.out, HG6.out.1, HG6.out.2⟩
          case measure => simp [intOf]; omega
      · have hii : i = 3 := by omega
        subst hii
        have p1 : decide ((3 : Int) < 3) = false := by decide
        have hf := HFO.out
        have hfin9 := Lib.hid (show fo = some acc from by rw [← hf]; show preB acc (some []) = _; simp [preB])
        clear hf hrow hB hgr
        go_wp2_with fail
        go_ret
        exact ⟨_, rfl, by rw [hfin9.out]; exact bestIs_of HR.out hac, HW.out⟩
end Go.Proofs.Ytbdkoagagcemcaa

/- The walk of layer 26: a band's bytes. -/
namespace Go.Proofs.Ytbdkoagagcemcaa
open Go.RowKit Pp

theorem bandW_none {l : List Int} (h : short l = none) : bandW l = none := by unfold bandW; rw [h]; rfl
theorem bandW_few {l : List Int} {s : List UInt8} (h : short l = some s) (hl : l.length < 8) : bandW l = some s := by unfold bandW; rw [h]; simp only [Option.map_some]; rw [if_pos hl]
theorem bandW_more {l : List Int} {s : List UInt8} (h : short l = some s) (hl : ¬ l.length < 8) : bandW l = some (([1, 3, 15] : List Nat).foldl (fun b m => better b (fav l m)) s) := by unfold bandW; rw [h]; simp only [Option.map_some]; rw [if_neg hl]; simp only [List.foldl_cons, List.foldl_nil]
set_option maxHeartbeats 8000000 in
set_option maxRecDepth 100000 in
theorem bwrite_any (A : Option Addr) (cc : Nat) (l : List Int) (w : World) (hx : Ints w A cc l) (hI : ∀ v ∈ l, I64 v) (hl : l.length ≤ 100000) :
    Calls Try.prog 9 #[.slice A l.length cc] w (RowRes (bandW l) w) := by
  have HX := Lib.hid hx
  have HI := Lib.hid hI
  have HSh := Lib.hid (shortest_any A cc l w hx hI (by omega))
  have HFv := Lib.hid (fun m (hm : m ≤ 15) w hx => favored_any A cc l w hx hI hl m hm)
  have hno := Lib.hid (fun h => bandW_none (l := l) h)
  have hfew := Lib.hid (fun s h => bandW_few (l := l) (s := s) h)
  have hmore := Lib.hid (fun s h => bandW_more (l := l) (s := s) h)
  have qn : ∀ (w : World) (a : Option Addr) (n c : Nat), (binOp .neq 23 (.slice a n c) (.slice none 0 0)).run Try.prog w = .ok (.bool !a.isNone) w := fun w a n c => by
    simp only [binOp]
    simp [Op.equal, Op.maxDepth, Lib.run_equalIn_slice_nil w 9999 23 5 a n c 0 0 Try.underlying23]
  clear hx hI
  have p0 : decide ((16777216 : Int) < (l.length : Int)) = false := decide_eq_false (by omega)
  have p00 : decide (16777216 < l.length) = false := decide_eq_false (by omega)
  go_enter Try.func9, Try.ntmps9
  go_wp2_with fail
  refine HSh.out.mono ?_
  intro ex w1 hres
  cases hs : short l with
  | none =>
    rw [hs] at hres
    obtain ⟨rfl, hb1⟩ := hres
    have hfin := Lib.hid (hno.out hs)
    have HB1 := Lib.hid hb1
    clear hb1 hs
    go_wp2_with fail
    go_ret2
    exact rowRes_none hfin.out rfl HB1.out
  | some s =>
    rw [hs] at hres
    obtain ⟨u, rfl, hr1, hb1⟩ := hres
    obtain ⟨A1, c1, rfl, hba⟩ := hr1.at_
    have HR1 := Lib.hid hr1
    have HB1 := Lib.hid hb1
    have hsl := short_len hs
    by_cases h8 : l.length < 8
    · have p1 : decide ((l.length : Int) < 8) = true := decide_eq_true (by omega)
      have p2 : decide (l.length < 8) = true := decide_eq_true h8
      have hfin := Lib.hid (hfew.out s hs h8)
      clear hb1 hr1 hba hs
      go_wp2_with fail
      go_ret2
      exact rowRes_some hfin.out rfl HR1.out HB1.out
    · have p1 : decide ((l.length : Int) < 8) = false := decide_eq_false (by omega)
      have p2 : decide (l.length < 8) = false := decide_eq_false h8
      have hfin := Lib.hid (hmore.out s hs h8)
      clear hb1 hr1 hba hs
      go_wp2_with fail
      have k2 := (Below.refl w1.heap.size w1).alloc (Nat.le_refl _) (.cells #[.int .i64 1, .int .i64 3, .int .i64 15] 3)
      have hblk := heap_alloc_new w1 (.cells #[.int .i64 1, .int .i64 3, .int .i64 15] 3)
      have HK2 := Lib.hid k2
      have HBK := Lib.hid hblk
      clear k2 hblk
      generalize hW0 : w1.alloc (.cells #[.int .i64 1, .int .i64 3, .int .i64 15] 3) = W0 at *
      have hws := Lib.hid (show w1.heap.size < W0.heap.size by rw [← hW0]; simp)
      have HW0 := Lib.hid (Below.after' HB1.out HK2.out (Nat.le_refl _))
      clear hW0
      go_loopw [4, 28] (fun v t wr => ∃ (i : Nat) (acc : List UInt8), i ≤ 3 ∧ t = .int .i64 i ∧ BRow wr w.heap.size 5 v acc ∧ some ((([1, 3, 15] : List Nat).drop i).foldl (fun b m => better b (fav l m)) acc) = bandW l ∧ Below W0.heap.size W0 wr) (fun _ t _ => 3 - (intOf t).toNat)
      case atStart => exact ⟨0, s, by omega, rfl, HR1.out.grow HK2.out, hfin.out.symm, Below.refl _ _⟩
      case round =>
        obtain ⟨i, acc, hi, rfl, hrow, hfo, hB⟩ := hrel
        obtain ⟨Aa, ca, rfl, _⟩ := hrow.at_
        have HR := Lib.hid hrow
        have HFO := Lib.hid hfo
        have HW := Lib.hid hB
        have HWW := Lib.hid (Below.after' HW0.out hB (Nat.le_refl _))
        clear hfo
        by_cases h1 : i < 3
        · have hnum : ∃ m : Nat, m ≤ 15 ∧ ([1, 3, 15] : List Nat)[i]? = some m ∧ wr.cell? ⟨w1.heap.size, i, none⟩ = some (.int .i64 (m : Int)) := by
            have hb9 := (blk_facts ((hB.block w1.heap.size hws.out).trans HBK.out)).1
            obtain rfl | rfl | rfl : i = 0 ∨ i = 1 ∨ i = 2 := by omega
            · exact ⟨1, by omega, rfl, hb9 0⟩
            · exact ⟨3, by omega, rfl, hb9 1⟩
            · exact ⟨15, by omega, rfl, hb9 2⟩
          obtain ⟨m, hm, hmi, hcell⟩ := hnum
          have hz9 : w1.heap.size < wr.heap.size := Nat.lt_of_lt_of_le hws.out hB.size
          have hdr := Lib.hid (drop_atI hmi)
          have HF := Lib.hid (HFv.out m hm wr (HX.out.grow HWW.out))
          have p3 : decide ((i : Int) < 3) = true := decide_eq_true (by omega)
          clear hmi hrow hB HFv
          go_wp2_with fail
          refine HF.out.mono ?_
          rintro ex w5 ⟨v, rfl, hbi, hb5⟩
          have hf := HFO.out
          rw [hdr.out, List.foldl_cons] at hf
          have HR5 := Lib.hid (HR.out.grow hb5)
          have HW5 := Lib.hid (Below.after' HW.out hb5 (Nat.le_refl _))
          have hsz := HWW.out.size
          clear HF
          cases hv : fav l m with
          | none =>
            rw [hv] at hbi hf
            obtain rfl := hbi
            have hf2 := Lib.hid (show some ((([1, 3, 15] : List Nat).drop (i + 1)).foldl (fun b m => better b (fav l m)) acc) = bandW l from hf)
            clear hb5 hf hv
            go_wp2_with fail
            go_roundw
            case rel => exact ⟨i + 1, acc, by omega, by go_num, HR5.out, hf2.out, HW5.out⟩
            case measure => simp [intOf]; omega
          | some q =>
            rw [hv] at hbi hf
            obtain ⟨g, c9, rfl, hrq⟩ := hbi
            by_cases hlt : q.length < acc.length
            · have p4 : decide ((q.length : Int) < (acc.length : Int)) = true := decide_eq_true (by omega)
              have p5 : decide (q.length < acc.length) = true := decide_eq_true hlt
              have hbt : better acc (some q) = q := if_pos hlt
              rw [hbt] at hf
              have hf2 := Lib.hid hf
              have HQ := Lib.hid (brow_base hrq hsz)
              clear hb5 hf hv hrq hbt
              go_wp2_with fail
              go_roundw
              case rel => exact ⟨i + 1, q, by omega, by go_num, HQ.out, hf2.out, HW5.out⟩
              case measure => simp [intOf]; omega
            · have p4 : decide ((q.length : Int) < (acc.length : Int)) = false := decide_eq_false (by omega)
              have p5 : decide (q.length < acc.length) = false := decide_eq_false hlt
              have hbt : better acc (some q) = acc := if_neg hlt
              rw [hbt] at hf
              have hf2 := Lib.hid hf
              clear hb5 hf hv hrq hbt
              go_wp2_with fail
              go_roundw
              case rel => exact ⟨i + 1, acc, by omega, by go_num, HR5.out, hf2.out, HW5.out⟩
              case measure => simp [intOf]; omega
        · have hii : i = 3 := by omega
          subst hii
          have p3 : decide ((3 : Int) < 3) = false := by decide
          have hfin9 := Lib.hid (show bandW l = some acc from HFO.out.symm)
          clear hrow hB
          go_wp2_with fail
          go_ret2
          exact rowRes_some hfin9.out rfl HR.out HWW.out
end Go.Proofs.Ytbdkoagagcemcaa

/- The walks of layer 26's statements: what they are asked of. -/
namespace Go.Proofs.Ytbdkoagagcemcaa
open Go.RowKit Pp

set_option maxHeartbeats 4000000 in
set_option maxRecDepth 100000 in
theorem bsame_any (A B : Option Addr) (c d : Nat) (xs ys : List Int) (w : World) (hx : Ints w A c xs) (hy : Ints w B d ys) (hn : xs.length ≤ 1000000) (_hm : ys.length ≤ 1000000) :
    Calls Try.prog 12 #[.slice A xs.length c, .slice B ys.length d] w fun e w' => e = .returned (.bool (decide (xs = ys))) ∧ Below w.heap.size w w' := by
  by_cases hlen : xs.length = ys.length
  rotate_left
  · have hfin := Lib.hid (show decide (xs = ys) = false from decide_eq_false (fun e => hlen (by rw [e])))
    have q : ((xs.length : Int) != ys.length) = true := by rw [bne_iff_ne]; omega
    clear hx hy
    go_enter Try.func12, Try.ntmps12
    go_wp2
    go_ret
    exact ⟨ret_bool hfin.out.symm, Below.refl _ _⟩
  have q : ((xs.length : Int) != ys.length) = false := by rw [hlen]; simp
  have HX := Lib.hid hx
  have HY := Lib.hid hy
  have HL := Lib.hid hlen
  have hle : ys.length ≤ xs.length := by omega
  clear hx hy hlen
  go_enter Try.func12, Try.ntmps12
  go_wp2_with fail
  go_loopw [13] (fun u wr => ∃ i : Nat, i ≤ xs.length ∧ u = .int .i64 i ∧ Below w.heap.size w wr ∧ xs.take i = ys.take i) (fun u _ => xs.length - (intOf u).toNat)
  case atStart => exact ⟨0, Nat.zero_le _, rfl, Below.refl _ _, rfl⟩
  case round =>
    obtain ⟨i, hil, rfl, hB, ht⟩ := hrel
    have HB := Lib.hid hB
    have HT := Lib.hid ht
    by_cases h1 : i < xs.length
    · obtain ⟨g, o, x, rfl, hg, hxi, hcx⟩ := (HX.out.grow hB).at_ h1
      obtain ⟨g2, o2, y, rfl, hg2, hyi, hcy⟩ := (HY.out.grow hB).at_ (i := i) (by rw [← HL.out]; exact h1)
      have hiy : i < ys.length := by rw [← HL.out]; exact h1
      have HXI := Lib.hid hxi
      have HYI := Lib.hid hyi
      clear hB ht hxi hyi
      by_cases hxy : x = y
      · have q2 : (x != y) = false := by simp [hxy]
        have hs := Lib.hid (show xs.take (i + 1) = ys.take (i + 1) by rw [take_snocI xs i x HXI.out, take_snocI ys i y HYI.out, HT.out, hxy])
        clear hxy
        go_wp2_with fail
        refine wp_region_grow (by kernel_rfl) (by kernel_rfl) ?_
        repeat (go_big_quiet_step (fail))
        refine wpQuiet_nil ?_
        intro g1
        obtain ⟨w1, hb1⟩ := g1
        have HB2 := Lib.hid (Below.after' HB.out hb1 (Nat.le_refl _))
        dsimp only
        clear hb1
        go_wp2
        go_roundw
        case rel => exact ⟨i + 1, by omega, by go_num, HB2.out, hs.out⟩
        case measure => simp [intOf]; omega
      · have q2 : (x != y) = true := by simp [hxy]
        have hfin := Lib.hid (show decide (xs = ys) = false from decide_eq_false (fun e => by
          have h2 := HXI.out
          rw [e, HYI.out] at h2
          exact hxy (Option.some.inj h2).symm))
        clear hxy
        go_wp2_with fail
        refine wp_region_grow (by kernel_rfl) (by kernel_rfl) ?_
        repeat (go_big_quiet_step (fail))
        refine wpQuiet_nil ?_
        intro g1
        obtain ⟨w1, hb1⟩ := g1
        have HB2 := Lib.hid (Below.after' HB.out hb1 (Nat.le_refl _))
        dsimp only
        clear hb1
        go_wp2
        go_ret
        exact ⟨ret_bool hfin.out.symm, HB2.out⟩
    · have hfin := Lib.hid (show decide (xs = ys) = true from decide_eq_true (by
        rw [List.take_of_length_le (by omega), List.take_of_length_le (by rw [← HL.out]; omega)] at ht; exact ht))
      clear ht hB
      go_wp2
      go_ret
      exact ⟨ret_bool hfin.out.symm, HB.out⟩
theorem all_snoc (p : Int → Bool) (l : List Int) (i : Nat) (x : Int) (h : l[i]? = some x) : (l.take (i + 1)).all p = ((l.take i).all p && p x) := by
  rw [take_snocI l i x h, List.all_append]
  simp
theorem boundI_one (v : Int) : boundI 1 v = (decide (-2147483648 ≤ v) && decide (v < 2147483648)) := by unfold boundI; rw [if_neg (by decide), Bool.decide_and]
theorem boundI_nil (v : Int) : boundI 0 v = (decide (0 ≤ v) && decide (v < 4294967296)) := by unfold boundI; rw [if_pos rfl, Bool.decide_and]
set_option maxHeartbeats 4000000 in
set_option maxRecDepth 100000 in
theorem bounds_any (A : Option Addr) (c : Nat) (xs : List Int) (w : World) (hx : Ints w A c xs) (hn : xs.length ≤ 1000000) :
    Calls Try.prog 10 #[.slice A xs.length c] w fun e w' => e = .returned (.bool (boundsI xs)) ∧ w = w' := by
  have HX := Lib.hid hx
  have hfin := Lib.hid (show boundsI xs = (xs.all (boundI 0) || xs.all (boundI 1)) from rfl)
  clear hx
  go_enter Try.func10, Try.ntmps10
  go_wp2_with fail
  go_loop [3, 4, 9] (fun a b u => ∃ i : Nat, i ≤ xs.length ∧ u = .int .i64 i ∧ a = .bool ((xs.take i).all (boundI 1)) ∧ b = .bool ((xs.take i).all (boundI 0))) (fun _ _ u => xs.length - (intOf u).toNat)
  case atStart => exact ⟨0, Nat.zero_le _, rfl, rfl, rfl⟩
  case round =>
    obtain ⟨i, hi, rfl, rfl, rfl⟩ := hrel
    by_cases h1 : i < xs.length
    · obtain ⟨g, o, v, rfl, hg, hvi, hct⟩ := HX.out.at_ h1
      have ha := Lib.hid ((all_snoc (boundI 1) xs i v hvi).trans (by rw [boundI_one]))
      have hb := Lib.hid ((all_snoc (boundI 0) xs i v hvi).trans (by rw [boundI_nil]))
      clear hvi
      generalize (xs.take i).all (boundI 1) = A1 at *
      generalize (xs.take i).all (boundI 0) = B1 at *
      cases A1 <;> cases B1 <;> cases c1 : decide (-2147483648 ≤ v) <;> cases c2 : decide (0 ≤ v)
      all_goals
        go_wp2_with fail
        go_round
        case rel => exact ⟨i + 1, by omega, by go_num, by rw [ha.out]; simp [c1], by rw [hb.out]; simp [c2]⟩
        case measure => simp [intOf]; omega
    · have hii : i = xs.length := by omega
      subst hii
      have e1 := Lib.hid (show xs.take xs.length = xs from List.take_length)
      generalize hA : (xs.take xs.length).all (boundI 1) = A1 at *
      generalize hB : (xs.take xs.length).all (boundI 0) = B1 at *
      have hr := Lib.hid (show boundsI xs = (B1 || A1) by rw [hfin.out, ← hA, ← hB, e1.out])
      clear hA hB
      cases A1
      all_goals
        go_wp2_with fail
        go_ret
        exact ⟨ret_bool (by rw [hr.out]; simp), rfl⟩
end Go.Proofs.Ytbdkoagagcemcaa

/- The walk of layer 26's statements: the calls whose answers are fixed. -/
namespace Go.Proofs.Ytbdkoagagcemcaa
open Go.RowKit Pp

theorem brow_at2 {w : World} {base : Nat} {v : Value} {l : List UInt8} (h : BRow w base 5 v l) : ∃ A c, v = .slice A l.length c ∧ BAt w A c l ∧ (A = none → c = 0) := by
  obtain ⟨A, c, rfl, hb⟩ := h.at_
  refine ⟨A, c, rfl, hb, fun e => ?_⟩
  rcases h.2 with ⟨h2, _⟩ | ⟨g, cap, cur, h2, _⟩
  · injection h2 with q1 q2 q3
  · injection h2 with q1 q2 q3
    rw [e] at q1
    cases q1
theorem ints_blk (w : World) (xs : List Int) (t : TypeId) : Ints (w.alloc (.cells (ic xs).toArray t)) (some ⟨w.heap.size, 0, none⟩) xs.length xs :=
  ⟨Nat.le_refl _, fun _ => ⟨w.heap.size, 0, rfl, by simp, fun j x hx => by
    rw [Nat.zero_add, (blk_facts (heap_alloc_new w (.cells (ic xs).toArray t))).1 j]
    simp only [List.getElem?_toArray]
    exact ic_get hx⟩⟩
theorem bandW_of {l : List Int} (h : boundsI l = true) : ∃ b, bandW l = some b := by
  have := bandW_some l
  rw [h] at this
  exact Option.isSome_iff_exists.1 this
theorem bandW_no {l : List Int} (h : boundsI l = false) : bandW l = none := by
  have := bandW_some l
  rw [h] at this
  cases hb : bandW l with
  | none => rfl
  | some b => rw [hb] at this; cases this
theorem bandW_nil : bandW [] = some [0] := by
  have h : short [] = some [0] := by decide
  exact bandW_few h (by decide)
set_option maxHeartbeats 8000000 in
set_option maxRecDepth 100000 in
theorem bfixed_any (w : World) : Calls Try.prog 8 #[] w fun e w' => e = .returned (.bool true) ∧ Below w.heap.size w w' := by
  go_enter Try.func8, Try.ntmps8
  go_wp2_with fail
  refine (bwrite_any none 0 [] w (Ints.nil _ _ _) (fun v hv => by cases hv) (by decide)).mono ?_
  intro ex w1 hres
  rw [bandW_nil] at hres
  obtain ⟨u1, rfl, hr1, hb1⟩ := hres
  obtain ⟨A1, c1, rfl, _⟩ := hr1.at_
  have HB1 := Lib.hid hb1
  clear hr1 hb1
  simp only [List.length_cons, List.length_nil, Nat.zero_add]
  go_wp2_with fail
  obtain ⟨b3, hb3⟩ := bandW_of (l := [3, 1, 4]) (by decide)
  have hbl := bandW_len hb3
  have k1 := (Below.refl w1.heap.size w1).alloc (Nat.le_refl _) (.cells (ic [3, 1, 4]).toArray 3)
  have HW3 := bwrite_any (some ⟨w1.heap.size, 0, none⟩) 3 [3, 1, 4] _ (ints_blk w1 [3, 1, 4] 3) (by unfold I64; decide) (by decide)
  rw [hb3] at HW3
  have HK1 := Lib.hid (Below.after' HB1.out k1 (Nat.le_refl _))
  have hrd := Lib.hid (bandN_back hb3 (by decide) [])
  clear k1 hb3
  refine HW3.mono ?_
  rintro ex w2 ⟨u2, rfl, hr2, hb2⟩
  obtain ⟨A2, c2, rfl, hba2, hA2⟩ := brow_at2 hr2
  have HN := Lib.hid (cnew_any A2 c2 b3 w2 hba2 (by simp at hbl; omega) hA2)
  have HB2 := Lib.hid (Below.after' HK1.out hb2 (Nat.le_refl _))
  clear hr2 hb2 hba2 hA2 HW3 HB1 HK1
  go_wp2_with fail
  refine HN.out.mono ?_
  rintro ex w3 ⟨b, A3, c3, rfl, hc3, hbn, hb3⟩
  have HB2s := Lib.hid HB2.out.size
  have HRd := Lib.hid (bread_any hc3 3 (by unfold I64; decide) (by simp at hbl; omega))
  have HB3 := Lib.hid (Below.after' HB2.out hb3 (Nat.le_refl _))
  have hbb := hc3.lt
  clear hc3 hb3 HN HB2
  go_wp2_with fail
  refine HRd.out.mono ?_
  rintro ex w4 ⟨u4, vs, m, e4, rfl, hi4, hc4, ho4, _, hg4⟩
  have hwb : w.heap.size ≤ b := Nat.le_trans HB2s.out hbn
  have ho := ho4 rfl
  rw [List.drop_zero, show bandN 3 b3 = bandN (([3, 1, 4] : List Int).length : Int) (b3 ++ []) from by rw [List.append_nil]; rfl, hrd.out] at ho
  obtain ⟨rfl, rfl, hm⟩ := ho
  dsimp only at hm hi4
  have hml : m = b3.length := by
    have h1 := congrArg List.length hm
    have h2 := hc4.le
    rw [List.length_drop, List.length_nil] at h1
    omega
  have HEn := Lib.hid (fun w5 (h : Below w4.heap.size w4 w5) => cend_ok (hc4.grow h) hml)
  have HB4 := Lib.hid (HB3.out.grown hg4 HB3.out.size (fun k hk => by cases hk; exact hwb))
  obtain ⟨A4, c4, rfl, hI4, _⟩ := hi4
  have HI4 := Lib.hid hI4
  clear hc4 ho4 hg4 hI4 hm HRd hrd
  simp only [List.length_cons, List.length_nil, Nat.zero_add, Nat.reduceAdd]
  go_wp2_with fail
  have k1 := (Below.refl w4.heap.size w4).alloc (Nat.le_refl _) (.cells (ic [-1, 2147483648]).toArray 3)
  have HW5 := bwrite_any (some ⟨w4.heap.size, 0, none⟩) 2 [-1, 2147483648] _ (ints_blk w4 [-1, 2147483648] 3) (by unfold I64; decide) (by decide)
  rw [bandW_no (l := [-1, 2147483648]) (by decide)] at HW5
  have HK4 := Lib.hid k1
  clear k1
  refine HW5.mono ?_
  rintro ex w5 ⟨rfl, hb5⟩
  have hk5 := HK4.out.trans (hb5.mono HK4.out.size)
  have hI5 := HI4.out.grow hk5
  obtain ⟨g4, o4, q4, hg4, hc4⟩ := hI5.2 (by simp)
  have d4 := hc4 2 4 rfl
  subst q4
  have HE5 := Lib.hid (HEn.out w5 hk5)
  have HB5 := Lib.hid (Below.after' HB4.out hk5 (Nat.le_refl _))
  clear hb5 hk5 hI5 hc4 HW5 HK4 HEn HI4 HB4
  go_wp2_with fail
  refine HE5.out.mono ?_
  rintro ex w6 ⟨rfl, hb6⟩
  have HB6 := Lib.hid (Below.after' HB5.out hb6 (Nat.le_refl _))
  clear hb6
  go_wp2_with fail
  refine (codings_any w6).mono ?_
  rintro ex w7 ⟨rfl, _, hb7⟩
  have HB7 := Lib.hid (Below.after' HB6.out hb7 (Nat.le_refl _))
  clear hb7
  go_wp2_with fail
  go_ret
  exact ⟨rfl, HB7.out⟩
end Go.Proofs.Ytbdkoagagcemcaa

/- Layer 2's reference cursor: a box with bytes that it reads, its place, and its error; a number of one byte. -/
namespace Go.Proofs.Ytbdkoagagcemcaa
open Go.RowKit

/-- A cursor at place n of bytes l. -/
structure RCur (x : World) (b : Nat) (A : Option Addr) (c : Nat) (l : List UInt8) (n : Nat) (e : Int) : Prop where
  box : x.heap[b]? = some (.cells #[.slice A l.length c, .int .i64 n, .int .i64 e] 44 (0, 0))
  row : BAt x A c l
  le : n ≤ l.length
  small : l.length ≤ 1000000
section
variable {x y z : World} {b : Nat} {A : Option Addr} {c : Nat} {l : List UInt8} {n : Nat} {e : Int}
theorem RCur.lt (h : RCur x b A c l n e) : b < x.heap.size := (Array.getElem?_eq_some_iff.1 h.box).1
theorem RCur.grow (h : RCur x b A c l n e) (k : Below x.heap.size x y) : RCur y b A c l n e := ⟨(k.block b h.lt).trans h.box, h.row.grow k, h.le, h.small⟩
/-- A block that came behind turns. -/
theorem RCur.hop {m : Nat} {e0 : Int} (h0 : RCur x b A c l m e0) (h : RCur y b A c l n e) {o : Option Nat} (k : y.grownBy z o) (ho : ∀ g, o = some g → x.heap.size ≤ g) : RCur z b A c l n e :=
  ⟨(k.block b h.lt (fun e => by have := ho b e.symm; have := h0.lt; omega)).trans h.box, h.row.kept k (fun g o' e hp e2 => by
    obtain ⟨g', o'', e', hg, _⟩ := h0.row.2 hp
    rw [e'] at e
    cases e
    have := ho g e2.symm
    omega), h.le, h.small⟩
/-- The bytes' block is not the box. -/
theorem RCur.apart (h : RCur x b A c l n e) {g o : Nat} (hA : A = some ⟨g, o, none⟩) (hp : 0 < l.length) : g ≠ b := by
  intro eg
  subst eg
  obtain ⟨g', o', e', hg, hc⟩ := h.row.2 hp
  rw [hA] at e'
  cases e'
  have h1 := hc 0 _ (List.getElem?_eq_getElem hp)
  rw [(blk_facts h.box).1] at h1
  have hi : o + 0 < 3 := by
    have := (Array.getElem?_eq_some_iff.1 h1).1
    simpa using this
  obtain h2 | h2 | h2 : o + 0 = 0 ∨ o + 0 = 1 ∨ o + 0 = 2 := by omega
  all_goals
    rw [h2] at h1
    simp at h1
theorem RCur.cb (h : RCur x b A c l n e) : x.cell? ⟨b, 0, none⟩ = some (.slice A l.length c) := (blk_facts h.box).1 0
theorem RCur.ca (h : RCur x b A c l n e) : x.cell? ⟨b, 1, none⟩ = some (.int .i64 n) := (blk_facts h.box).1 1
theorem RCur.ce (h : RCur x b A c l n e) : x.cell? ⟨b, 2, none⟩ = some (.int .i64 e) := (blk_facts h.box).1 2
theorem RCur.frozen (h : RCur x b A c l n e) (t : Nat) : x.frozen? ⟨b, t, none⟩ = false := (blk_facts h.box).2 t
theorem RCur.turned (h : RCur x b A c l n e) (t : Nat) (v : Value) : x.grownBy (x.setCell ⟨b, t, none⟩ v) (some b) := by
  rw [setCell_eq_setRow x b t _ 44 (0, 0) v h.box]
  exact ⟨rfl, rfl, rfl, by simp, fun k _ hne => setRow_other x b k _ (fun hh => hne (by rw [hh]))⟩
theorem RCur.setErr (h : RCur x b A c l n e) (e' : Int) : RCur (x.setCell ⟨b, 2, none⟩ (.int .i64 e')) b A c l n e' :=
  ⟨by simp [World.setCell, Array.getElem?_modify, h.box], h.row.kept (h.turned 2 _) (fun g o hA hp e => h.apart hA hp (Option.some.inj e)), h.le, h.small⟩
theorem RCur.setAt (h : RCur x b A c l n e) {m : Nat} (hm : m ≤ l.length) : RCur (x.setCell ⟨b, 1, none⟩ (.int .i64 m)) b A c l m e :=
  ⟨by simp [World.setCell, Array.getElem?_modify, h.box], h.row.kept (h.turned 1 _) (fun g o hA hp e => h.apart hA hp (Option.some.inj e)), hm, h.small⟩
/-- The bytes from a place on. -/
theorem RCur.part (h : RCur x b A c l n e) {k : Nat} (hk : n + k ≤ l.length) (hp : 0 < k) : ∃ g o, A = some ⟨g, o, none⟩ ∧ g < x.heap.size ∧ BAt x (some ⟨g, o + n, none⟩) (c - n) ((l.drop n).take k) := by
  obtain ⟨g, o, e, hg, hc⟩ := h.row.2 (by omega)
  have := h.row.1
  refine ⟨g, o, e, hg, ?_, fun _ => ⟨g, o + n, rfl, hg, fun j u hu => ?_⟩⟩
  · rw [List.length_take, List.length_drop]; omega
  · rw [List.getElem?_take] at hu
    split at hu
    · rw [List.getElem?_drop] at hu
      have := hc _ u hu
      rw [← Nat.add_assoc] at this
      exact this
    · cases hu
theorem step_appBy {w : World} {ops : Array Oper} {o : Oper} {a : Act} {K : Act → World → Prop} {Q : Exit → Act → World → Prop} {E : Prop} (hgd : o.guard = none) (s x : Operand) (tx : TypeId)
    (ho : o.op = .call { callee := .builtin .append, args := #[s, x], argTypes := #[23, tx] })
    (base : Nat) (v : Value) (l m : List UInt8) (hv : a.eval s = v) (hown : BRow w base 5 v l)
    (X : Value) (hX : a.eval x = X) (hs : Src Try.prog 1 tx X m.length (cb m) w) (hn : l.length + m.length ≤ 100000000000) (hbase : base ≤ w.heap.size)
    (h : ∀ v' w', BRow w' base 5 v' (l ++ m) → Hop w w' v.ownBlock v'.ownBlock → K (a.put o.dst v') w') : if Region.wanted o (yielded ops a.tmps) = true then Oper.wp Try.prog o a w K Q else E := by
  obtain ⟨i0, hi, hz0, hz1, hz2⟩ := info_parts infoByte
  exact step_append_row hgd s x 23 tx ho base 5 i0 _ 1 1 Try.underlying23 hi hz0 hz1 hz2 rfl v _ _ hv hown X m.length (cb m) hX (fun v' w' h1 h2 => h v' w' (BRow.app h1 rfl) h2) hs (by unfold maxLen; omega) (by omega) hbase
theorem rsize_one (w : World) : Calls Try.prog 61 #[.int .i64 1] w fun e w' => e = .returned (.bool true) ∧ w' = w := by
  go_enter Try.func61, Try.ntmps61
  go_wp2
  go_ret
  exact ⟨rfl, rfl⟩
set_option maxRecDepth 100000 in
theorem rtake_bad (h : RCur x b A c l n e) (h0 : e ≠ 0) : Calls Try.prog 63 #[.pointer (some ⟨b, 0, none⟩), .int .i64 1] x fun ex y => ex = .returned (.slice none 0 0) ∧ y = x := by
  have p0 : (e != 0) = true := by simpa using h0
  have c2 := h.ce
  have hz := h.lt
  clear h h0
  go_enter Try.func63, Try.ntmps63
  go_wp2_with fail
  go_ret
  exact ⟨rfl, rfl⟩
set_option maxRecDepth 100000 in
theorem rtake_end (h : RCur x b A c l n 0) (hn : n = l.length) : Calls Try.prog 63 #[.pointer (some ⟨b, 0, none⟩), .int .i64 1] x fun ex y => ex = .returned (.slice none 0 0) ∧ RCur y b A c l n 6 ∧ x.grownBy y (some b) := by
  have H := Lib.hid h
  have c0 := h.cb
  have c1 := h.ca
  have c2 := h.ce
  have hf := h.frozen 2
  have hz := h.lt
  have hs := h.small
  have hr := h.row.1
  subst hn
  clear h
  go_enter Try.func63, Try.ntmps63
  go_wp2_with fail
  go_region
  go_wp2_with fail
  go_ret
  exact ⟨rfl, (H.out.grow (Below.refl _ _).drew).setErr 6, grownBy_trans (grownBy_below (Below.refl _ _).drew (some b)) ((H.out.grow (Below.refl _ _).drew).turned 2 _) (.inl rfl)⟩
set_option maxHeartbeats 4000000 in
set_option maxRecDepth 100000 in
theorem rtake_ok (h : RCur x b A c l n 0) {u : UInt8} (hu : l[n]? = some u) : Calls Try.prog 63 #[.pointer (some ⟨b, 0, none⟩), .int .i64 1] x fun ex y => (∃ v, ex = .returned v ∧ BRow y x.heap.size 5 v [u]) ∧ RCur y b A c l (n + 1) 0 ∧ x.grownBy y (some b) := by
  have hl : n < l.length := (List.getElem?_eq_some_iff.1 hu).1
  have H := Lib.hid h
  obtain ⟨g, o, rfl, hg, hcs⟩ := h.row.2 (by omega)
  have HCS := Lib.hid (hcs n u hu)
  have c0 := h.cb
  have c1 := h.ca
  have c2 := h.ce
  have hf := h.frozen 1
  have hz := h.lt
  have hs := h.small
  have hr := h.row.1
  have hle := h.le
  have p1 : decide ((l.length : Int) - (n : Int) < 1) = false := decide_eq_false (by omega)
  clear h hcs
  go_enter Try.func63, Try.ntmps63
  go_wp2_with fail
  go_region
  go_wp2_with fail
  have e1 := Lib.hid (show ((n + 1 : Nat) : Int) = (n : Int) + 1 from rfl)
  have h1 := H.out.setAt (m := n + 1) (by omega)
  have hg1 := H.out.turned 1 (.int .i64 ((n : Int) + 1))
  have hcs1 := (World.cell?_of_block (a := ⟨g, o + n, none⟩) (hg1.block g hg (fun e => H.out.apart rfl (by omega) (Option.some.inj e)))).trans HCS.out
  rw [e1.out] at h1
  generalize hW : x.setCell ⟨b, 1, none⟩ (.int .i64 ((n : Int) + 1)) = W at *
  have H1 := Lib.hid h1
  have HG1 := Lib.hid hg1
  have d0 := h1.cb
  have d1 := h1.ca
  rw [e1.out] at d1
  have hz1 := h1.lt
  have hgW : g < W.heap.size := Nat.lt_of_lt_of_le hg hg1.size
  have hwx : x.heap.size ≤ W.heap.size := hg1.size
  have hsrc := Lib.hid (show ∀ y, Below W.heap.size W y → Src Try.prog 1 23 (.slice (some ⟨g, o + n, none⟩) [u].length (c - n)) [u].length (cb [u]) y from fun y k => BAt.src ⟨by simp; omega, fun _ => ⟨g, o + n, rfl, Nat.lt_of_lt_of_le hgW k.size, fun j t ht => by
    cases j with
    | zero =>
      simp at ht
      subst ht
      rw [Nat.add_zero]
      exact (k.cell (p := ⟨g, _, none⟩) hgW).trans hcs1
    | succ j => simp at ht⟩⟩)
  have q1 : ¬ (c - n = 0) := by omega
  have q2 : ¬ (c ≤ n) := by omega
  have hwn : IntKind.i64.wrap (n : Int) = (n : Int) := by rw [IntKind.wrap_i64]; omega
  have hb1 : (0 : Int) ≤ (n : Int) + 1 ∧ (n : Int) + 1 ≤ (c : Int) := by omega
  have hb2 : (0 : Int) ≤ (n : Int) ∧ (n : Int) ≤ (n : Int) + 1 := by omega
  have q3 : ¬ (c = n) := by omega
  clear h1 hg1 hcs1 hW c0 c1 c2 hf hz
  have FIN := Lib.hid (show ∀ (y : World) (B : Nat) (v3 : Value) (w3 : World), Below W.heap.size W y → W.heap.size ≤ B → BRow w3 x.heap.size 5 v3 ([] ++ [u]) → Hop y w3 (some B) v3.ownBlock → BRow w3 x.heap.size 5 v3 [u] ∧ RCur w3 b (some ⟨g, o, none⟩) c l (n + 1) 0 ∧ x.grownBy w3 (some b) from fun y B v3 w3 k hB hr hp =>
    ⟨hr, H.out.hop (H1.out.grow k) hp.1 (fun g e => by cases e; exact Nat.le_trans hwx hB), grownBy_trans (grownBy_trans HG1.out (grownBy_below k none) (.inr fun g e => by cases e)) hp.1 (.inr fun g e => by cases e; exact Nat.le_trans hwx hB)⟩)
  go_region_law ((refine step_appBy rfl _ _ _ rfl x.heap.size _ [] [u] rfl (freshB (heap_alloc_new _ _) ?_) _ rfl (hsrc.out _ ?_) (by simp) ?_ ?_; (focus (first | omega | (simp; done) | (simp; omega))); (focus (exact (((Below.refl _ _).alloc (Nat.le_refl _) _).drew).drew)); (focus (first | omega | (simp; done) | (simp; omega))); intro v3 w3 hr3 hp3; have F0 := Lib.hid (fun k hB => FIN.out _ _ v3 w3 k hB hr3 hp3); clear hr3 hp3))
  all_goals
    have F := Lib.hid (F0.out (((Below.refl _ _).alloc (Nat.le_refl _) _).drew).drew (by first | omega | (simp; done) | (simp; omega)))
    clear F0
    go_wp2_with fail
    go_ret
    exact ⟨⟨_, rfl, F.out.1⟩, F.out.2.1, F.out.2.2⟩
theorem rnumber_nil (x : World) : Calls Try.prog 62 #[.slice none 0 0] x fun ex y => ex = .returned (.int .u64 0) ∧ y = x := by
  go_enter Try.func62, Try.ntmps62
  go_wp2_with fail
  go_loop [3, 8] (fun s t => s = .int .u64 0 ∧ t = .int .i64 0) (fun _ _ => 0)
  case atStart => exact ⟨rfl, rfl⟩
  case round =>
    obtain ⟨rfl, rfl⟩ := hrel
    go_wp2_with fail
    go_ret
    exact ⟨rfl, rfl⟩
theorem rnumber_one (A : Option Addr) (c : Nat) (u : UInt8) (x : World) (hx : BAt x A c [u]) : Calls Try.prog 62 #[.slice A 1 c] x fun ex y => ex = .returned (.int .u64 (u.toNat : Int)) ∧ y = x := by
  obtain ⟨g, o, rfl, hg, hc⟩ := hx.2 (by simp)
  have c0 := hc 0 u rfl
  rw [Nat.add_zero] at c0
  have hb1 : (1 : Nat) ≤ c := hx.1
  have hu := u.toNat_lt
  clear hx hc
  go_enter Try.func62, Try.ntmps62
  go_wp2_with fail
  go_loop [3, 8] (fun s t => (s = .int .u64 0 ∧ t = .int .i64 0) ∨ (s = .int .u64 (u.toNat : Int) ∧ t = .int .i64 1)) (fun _ t => (1 - intOf t).toNat)
  case atStart => exact .inl ⟨rfl, rfl⟩
  case round =>
    rcases hrel with ⟨rfl, rfl⟩ | ⟨rfl, rfl⟩
    · go_wp2_with fail
      go_round
      case rel => exact .inr ⟨by go_num, rfl⟩
      case measure => decide
    · go_wp2_with fail
      go_ret
      exact ⟨rfl, rfl⟩
/-- A number of one byte: behind an error, at the end, and where there is one. -/
theorem rbig_bad (h : RCur x b A c l n e) (h0 : e ≠ 0) : Calls Try.prog 40 #[.pointer (some ⟨b, 0, none⟩), .int .i64 1] x fun ex y => ex = .returned (.int .u64 0) ∧ y = x := by
  have p0 : (e == 0) = false := by simpa using h0
  have HT := Lib.hid (rtake_bad h h0)
  have c2 := h.ce
  have hz := h.lt
  clear h h0
  go_enter Try.func40, Try.ntmps40
  go_wp2_with fail
  refine HT.out.mono ?_
  rintro ex y ⟨rfl, ey⟩
  have ey := ey.symm
  subst ey
  go_wp2_with fail
  refine (rnumber_nil x).mono ?_
  rintro ex y ⟨rfl, ey⟩
  have ey := ey.symm
  subst ey
  go_wp2_with fail
  go_ret
  exact ⟨rfl, rfl⟩
theorem rbig_end (h : RCur x b A c l n 0) (hn : n = l.length) : Calls Try.prog 40 #[.pointer (some ⟨b, 0, none⟩), .int .i64 1] x fun ex y => ex = .returned (.int .u64 0) ∧ RCur y b A c l n 6 ∧ x.grownBy y (some b) := by
  have HT := Lib.hid (rtake_end h hn)
  have c2 := h.ce
  have hz := h.lt
  clear h hn
  go_enter Try.func40, Try.ntmps40
  go_wp2_with fail
  refine (rsize_one x).mono ?_
  rintro ex y ⟨rfl, ey⟩
  have ey := ey.symm
  subst ey
  go_wp2_with fail
  refine HT.out.mono ?_
  rintro ex y ⟨rfl, hc, hg⟩
  have HC := Lib.hid hc
  have HG := Lib.hid hg
  clear hc hg
  go_wp2_with fail
  refine (rnumber_nil y).mono ?_
  rintro ex z ⟨rfl, ey⟩
  have ey := ey.symm
  subst ey
  go_wp2_with fail
  go_ret
  exact ⟨rfl, HC.out, HG.out⟩
theorem rbig_ok (h : RCur x b A c l n 0) {u : UInt8} (hu : l[n]? = some u) : Calls Try.prog 40 #[.pointer (some ⟨b, 0, none⟩), .int .i64 1] x fun ex y => ex = .returned (.int .u64 (u.toNat : Int)) ∧ RCur y b A c l (n + 1) 0 ∧ x.grownBy y (some b) := by
  have HT := Lib.hid (rtake_ok h hu)
  have c2 := h.ce
  have hz := h.lt
  clear h
  go_enter Try.func40, Try.ntmps40
  go_wp2_with fail
  refine (rsize_one x).mono ?_
  rintro ex y ⟨rfl, ey⟩
  have ey := ey.symm
  subst ey
  go_wp2_with fail
  refine HT.out.mono ?_
  rintro ex y ⟨⟨v, rfl, hr⟩, hc, hg⟩
  obtain ⟨A1, c1, rfl, hba⟩ := hr.at_
  have HN := Lib.hid (rnumber_one A1 c1 u y hba)
  have HC := Lib.hid hc
  have HG := Lib.hid hg
  clear hc hg hr hba
  simp only [List.length_cons, List.length_nil, Nat.zero_add]
  go_wp2_with fail
  refine HN.out.mono ?_
  rintro ex z ⟨rfl, ey⟩
  have ey := ey.symm
  subst ey
  go_wp2_with fail
  go_ret
  exact ⟨rfl, HC.out, HG.out⟩
end
end Go.Proofs.Ytbdkoagagcemcaa

/- The walks of layer 24's reference: whether a coding may be, its reach, plain numbers, and bounds. -/
namespace Go.Proofs.Ytbdkoagagcemcaa
open Go.RowKit

set_option maxHeartbeats 4000000 in
set_option maxRecDepth 100000 in
theorem rright_any (c : Cod) (hc : c.ok) (w : World) : Calls Try.prog 18 #[c.val] w fun ex y => ex = .returned (.bool true) ∧ Below w.heap.size w y := by
  obtain ⟨h1, h2, h3, h4, h5, h6, h7, h8⟩ := hc
  obtain ⟨B, H, S, D⟩ := c
  dsimp only at *
  unfold Cod.val
  have p1 : decide ((B : Int) < 1) = false := decide_eq_false (by omega)
  have p2 : decide ((5 : Int) < (B : Int)) = false := decide_eq_false (by omega)
  have p3 : decide ((H : Int) < 2) = false := decide_eq_false (by omega)
  have p4 : decide ((256 : Int) < (H : Int)) = false := decide_eq_false (by omega)
  have p5 : decide ((S : Int) < 0) = false := decide_eq_false (by omega)
  have p6 : decide ((2 : Int) < (S : Int)) = false := decide_eq_false (by omega)
  have p7 : decide ((D : Int) < 0) = false := decide_eq_false (by omega)
  have p8 : decide ((1 : Int) < (D : Int)) = false := decide_eq_false (by omega)
  by_cases q1 : 1 < B
  · have r1 : decide ((1 : Int) < (B : Int)) = true := decide_eq_true (by omega)
    by_cases q2 : H < 256
    · have r2 : decide ((H : Int) < 256) = true := decide_eq_true (by omega)
      clear h7 h8
      go_enter Try.func18, Try.ntmps18
      go_wp2
      go_ret
      exact ⟨rfl, by first | exact Below.refl _ _ | exact (Below.refl _ _).alloc (Nat.le_refl _) _⟩
    · have r2 : decide ((H : Int) < 256) = false := decide_eq_false (by omega)
      have r3 : decide ((B : Int) ≤ 4) = true := decide_eq_true (by omega)
      clear h7 h8
      go_enter Try.func18, Try.ntmps18
      go_wp2
      go_ret
      exact ⟨rfl, by first | exact Below.refl _ _ | exact (Below.refl _ _).alloc (Nat.le_refl _) _⟩
  · obtain rfl : H = 256 := by omega
    obtain rfl : B = 1 := by omega
    clear h7 h8
    go_enter Try.func18, Try.ntmps18
    go_wp2
    go_ret
    exact ⟨rfl, by first | exact Below.refl _ _ | exact (Below.refl _ _).alloc (Nat.le_refl _) _⟩
set_option maxRecDepth 100000 in
theorem rreach_any (c : Cod) (hc : c.ok) (w : World) : Calls Try.prog 59 #[c.val] w fun ex y => ex = .returned (.int .i64 (c.reach : Int)) ∧ Below w.heap.size w y := by
  have hh : c.h ≤ 256 := hc.2.2.2.1
  have h1 : 1 ≤ c.b := hc.1
  have h5 : c.b ≤ 5 := hc.2.1
  have hb := Lib.hid (fun k (hk : k ≤ 4) => Nat.le_trans (reachU_le c.h hh k) (Nat.pow_le_pow_right (by decide : 0 < 256) (by omega : k + 1 ≤ 5)))
  have hfin := Lib.hid (show c.reach = min (reachU c.h (c.b - 1)) 4294967296 from rfl)
  unfold Cod.val at *
  generalize c.b = B at *
  generalize c.h = H at *
  generalize c.s = S at *
  generalize c.d = D at *
  generalize c.reach = R at *
  clear hc c
  go_enter Try.func59, Try.ntmps59
  go_wp2_with fail
  go_loop [3, 4] (fun u t => ∃ i : Nat, i ≤ B - 1 ∧ t = .int .i64 (i + 1 : Nat) ∧ u = .int .i64 (reachU H i : Int)) (fun _ t => B + 1 - (intOf t).toNat)
  case atStart => exact ⟨0, Nat.zero_le _, rfl, rfl⟩
  case round =>
    obtain ⟨i, hi, rfl, rfl⟩ := hrel
    have hb0 := hb.out i (by omega)
    by_cases h2 : i < B - 1
    · have hb2 := hb.out (i + 1) (by omega)
      have hm := Lib.hid (show (256 - (H : Int)) + (H : Int) * (reachU H i : Int) = (reachU H (i + 1) : Int) by
        rw [show reachU H (i + 1) = 256 - H + H * reachU H i from rfl, Int.natCast_add, Int.natCast_mul, Int.ofNat_sub hh]; rfl)
      have hp0 : 0 ≤ (H : Int) * (reachU H i : Int) := Int.mul_nonneg (by omega) (by omega)
      have hp1 : (H : Int) * (reachU H i : Int) ≤ 2000000000000 := by have := hm.out; omega
      have q1 : decide (((i + 1 : Nat) : Int) < (B : Int)) = true := decide_eq_true (by omega)
      have q2 : decide (i + 1 < B) = true := decide_eq_true (by omega)
      have q3 : decide ((i : Int) + 1 < (B : Int)) = true := decide_eq_true (by omega)
      have hq := Lib.hid hb2
      clear hb2
      generalize hr2 : reachU H (i + 1) = r2 at *
      have HR2 := Lib.hid hr2
      clear hr2
      go_wp2_with fail
      go_round
      case rel => exact ⟨i + 1, by omega, by go_num, by rw [hm.out, HR2.out]⟩
      case measure => simp [intOf]; omega
    · obtain rfl : i = B - 1 := by omega
      have q1 : decide (((B - 1 + 1 : Nat) : Int) < (B : Int)) = false := decide_eq_false (by omega)
      have q2 : decide (B - 1 + 1 < B) = false := decide_eq_false (by omega)
      have q3 : decide (((B - 1 : Nat) : Int) + 1 < (B : Int)) = false := decide_eq_false (by omega)
      clear h2 hi
      have hm := hfin.out
      generalize reachU H (B - 1) = r at *
      by_cases hbig : 4294967296 < r
      · have q4 : decide ((4294967296 : Int) < (r : Int)) = true := decide_eq_true (by omega)
        have hm2 := Lib.hid (show R = 4294967296 by omega)
        clear hbig
        go_wp2_with fail
        go_ret
        exact ⟨ret_int (by have := hm2.out; omega), (Below.refl _ _).alloc (Nat.le_refl _) _⟩
      · have q4 : decide ((4294967296 : Int) < (r : Int)) = false := decide_eq_false (by omega)
        have hm2 := Lib.hid (show R = r by omega)
        clear hbig
        go_wp2_with fail
        go_ret
        exact ⟨ret_int (by have := hm2.out; omega), (Below.refl _ _).alloc (Nat.le_refl _) _⟩
set_option maxRecDepth 100000 in
theorem rpart_any (c : Cod) (hc : c.ok) (w : World) : Calls Try.prog 60 #[c.val] w fun ex y => ex = .returned (.int .i64 (2 ^ c.s - 1 : Int)) ∧ Below w.heap.size w y := by
  have h := small_s hc
  unfold Cod.val
  generalize c.b = B
  generalize c.h = H
  generalize c.d = D
  generalize c.s = S at *
  clear hc c
  rcases h with rfl | rfl | rfl
  all_goals
    go_enter Try.func60, Try.ntmps60
    go_wp2_with fail
    go_ret
    exact ⟨rfl, (Below.refl _ _).alloc (Nat.le_refl _) _⟩
set_option maxRecDepth 100000 in
theorem rbound_any (c : Cod) (hc : c.ok) (v : Int) (hv : I64 v) (w : World) : Calls Try.prog 35 #[c.val, .int .i64 v] w fun ex y => ex = .returned (.bool (boundI c.s v)) ∧ Below w.heap.size w y := by
  have h := small_s hc
  unfold I64 at hv
  unfold Cod.val boundI
  generalize c.b = B
  generalize c.h = H
  generalize c.d = D
  generalize c.s = S at *
  clear hc c
  rcases h with rfl | rfl | rfl
  · by_cases h0 : 0 ≤ v
    · have p0 : decide (0 ≤ v) = true := decide_eq_true h0
      go_enter Try.func35, Try.ntmps35
      go_wp2_with fail
      go_ret
      exact ⟨ret_bool (by simp [h0]), (Below.refl _ _).alloc (Nat.le_refl _) _⟩
    · have p0 : decide (0 ≤ v) = false := decide_eq_false h0
      go_enter Try.func35, Try.ntmps35
      go_wp2_with fail
      go_ret
      exact ⟨ret_bool (by simp [h0]), (Below.refl _ _).alloc (Nat.le_refl _) _⟩
  · by_cases h0 : -2147483648 ≤ v
    · have p0 : decide (-2147483648 ≤ v) = true := decide_eq_true h0
      go_enter Try.func35, Try.ntmps35
      go_wp2_with fail
      go_ret
      exact ⟨ret_bool (by simp [h0]), (Below.refl _ _).alloc (Nat.le_refl _) _⟩
    · have p0 : decide (-2147483648 ≤ v) = false := decide_eq_false h0
      go_enter Try.func35, Try.ntmps35
      go_wp2_with fail
      go_ret
      exact ⟨ret_bool (by simp [h0]), (Below.refl _ _).alloc (Nat.le_refl _) _⟩
  · by_cases h0 : -2147483648 ≤ v
    · have p0 : decide (-2147483648 ≤ v) = true := decide_eq_true h0
      go_enter Try.func35, Try.ntmps35
      go_wp2_with fail
      go_ret
      exact ⟨ret_bool (by simp [h0]), (Below.refl _ _).alloc (Nat.le_refl _) _⟩
    · have p0 : decide (-2147483648 ≤ v) = false := decide_eq_false h0
      go_enter Try.func35, Try.ntmps35
      go_wp2_with fail
      go_ret
      exact ⟨ret_bool (by simp [h0]), (Below.refl _ _).alloc (Nat.le_refl _) _⟩
theorem roundI_hi {s : Nat} {v : Int} (h : boundI s v = false) (hv : 0 < v) : roundI s (v - 4294967296) = roundI s v := by
  unfold roundI
  split <;> omega
theorem roundI_lo (s : Nat) (v : Int) : roundI s (v + 4294967296) = roundI s v := by
  unfold roundI
  split <;> omega
theorem roundI_dn (s : Nat) (v : Int) : roundI s (v - 4294967296) = roundI s v := by
  unfold roundI
  split <;> omega
theorem roundI_same {s : Nat} {v : Int} (h : boundI s v = true) : roundI s v = v := by
  unfold boundI at h
  unfold roundI
  by_cases hs : s = 0
  · rw [if_pos hs] at h ⊢
    have := of_decide_eq_true h
    omega
  · rw [if_neg hs] at h ⊢
    have := of_decide_eq_true h
    omega
theorem boundI_not {s : Nat} {v : Int} (h : boundI s v = false) : v < 0 ∨ 2147483648 ≤ v := by
  unfold boundI at h
  split at h
  · have := of_decide_eq_false h; omega
  · have := of_decide_eq_false h; omega
theorem boundI_up {s : Nat} {u : Int} (h : boundI s u = false) (hu : u < 0) : boundI s (u + 4294967296) = true ∨ u + 4294967296 < 0 := by
  by_cases h1 : u + 4294967296 < 0
  · exact .inr h1
  · refine .inl ?_
    unfold boundI at h ⊢
    by_cases hs : s = 0
    · rw [if_pos hs]
      exact decide_eq_true (by omega)
    · rw [if_neg hs] at h ⊢
      have := of_decide_eq_false h
      exact decide_eq_true (by omega)
theorem boundI_lowI {s : Nat} {v : Int} (h : boundI s v = false) (h1 : ¬ 0 < v) : v < 0 := by
  rcases boundI_not h with h | h <;> omega
set_option maxHeartbeats 4000000 in
set_option maxRecDepth 100000 in
theorem rround_any (c : Cod) (hc : c.ok) (v : Int) (hv : -1000000000000 ≤ v ∧ v ≤ 1000000000000) (w : World) : Calls Try.prog 36 #[c.val, .int .i64 v] w fun ex y => ex = .returned (.int .i64 (roundI c.s v)) ∧ Below w.heap.size w y := by
  have HBd := Lib.hid (fun v hv w => rbound_any c hc v hv w)
  unfold Cod.val at *
  go_enter Try.func36, Try.ntmps36
  go_wp2_with fail
  have hbx0 : CBox (w.alloc (.cells #[.int .i64 c.b, .int .i64 c.h, .int .i64 c.s, .int .i64 c.d] 38)) w.heap.size c := heap_alloc_new w _
  have hb0 := (Below.refl w.heap.size w).alloc (Nat.le_refl _) (.cells #[.int .i64 c.b, .int .i64 c.h, .int .i64 c.s, .int .i64 c.d] 38)
  have HX0 := Lib.hid hbx0
  have HB0 := Lib.hid hb0
  clear hbx0 hb0
  go_loopw [1] (fun t wr => ∃ u : Int, t = .int .i64 u ∧ -6000000000 + (if v < 0 then v else 0) ≤ u ∧ u ≤ 1000000000000 ∧ roundI c.s u = roundI c.s v ∧ CBox wr w.heap.size c ∧ Below w.heap.size w wr) (fun t _ => (intOf t + 6000000000000).toNat)
  case atStart => exact ⟨v, rfl, by split <;> omega, by omega, rfl, HX0.out, HB0.out⟩
  case round =>
    obtain ⟨u, rfl, hu1, hu2, hr, hbx, hB⟩ := hrel
    have hu3 : -2000000000000 ≤ u := by split at hu1 <;> omega
    have huI : I64 u := by unfold I64; omega
    have HBX := Lib.hid hbx
    have HW := Lib.hid hB
    have HR := Lib.hid hr
    have HU1 := Lib.hid hu1
    have d0 := (blk_facts hbx).1 0
    have d1 := (blk_facts hbx).1 1
    have d2 := (blk_facts hbx).1 2
    have d3 := (blk_facts hbx).1 3
    have hz := (Array.getElem?_eq_some_iff.1 hbx).1
    clear hbx hB hr hu1
    go_wp2_with fail
    refine (HBd.out u huI _).mono ?_
    rintro ex y ⟨rfl, hb1⟩
    have hbx1 := HBX.out.grow hb1
    have HBX1 := Lib.hid hbx1
    have HW1 := Lib.hid (Below.after' HW.out hb1 (Nat.le_refl _))
    clear d0 d1 d2 d3 hz hb1 HBX HW
    have d0 := (blk_facts hbx1).1 0
    have d1 := (blk_facts hbx1).1 1
    have d2 := (blk_facts hbx1).1 2
    have d3 := (blk_facts hbx1).1 3
    have hz := (Array.getElem?_eq_some_iff.1 hbx1).1
    clear hbx1
    cases hbd : boundI c.s u with
    | true =>
      have HST := Lib.hid (show boundI c.s u = true ∨ u < 0 from .inl hbd)
      clear hbd
      go_wp2_with fail
      go_loopw [1] (fun t wr => ∃ u : Int, t = .int .i64 u ∧ -3000000000000 ≤ u ∧ u ≤ 1000000000000 ∧ roundI c.s u = roundI c.s v ∧ (boundI c.s u = true ∨ u < 0) ∧ CBox wr w.heap.size c ∧ Below w.heap.size w wr) (fun t _ => (4000000000000 - intOf t).toNat)
      case atStart => exact ⟨u, rfl, by omega, by omega, HR.out, HST.out, HBX1.out, HW1.out⟩
      case round =>
        clear d0 d1 d2 d3 hz HBX1 HW1 HR HST hu2 hu3 huI HU1
        obtain ⟨q, rfl, hq1, hq2, hr, hst, hbx, hB⟩ := hrel
        have hqI : I64 q := by unfold I64; omega
        have HBX := Lib.hid hbx
        have HW := Lib.hid hB
        have HR := Lib.hid hr
        have d0 := (blk_facts hbx).1 0
        have d1 := (blk_facts hbx).1 1
        have d2 := (blk_facts hbx).1 2
        have d3 := (blk_facts hbx).1 3
        have hz := (Array.getElem?_eq_some_iff.1 hbx).1
        clear hbx hB hr
        go_wp2_with fail
        refine (HBd.out q hqI _).mono ?_
        rintro ex y2 ⟨rfl, hb1⟩
        have hbx1 := HBX.out.grow hb1
        have HBX1 := Lib.hid hbx1
        have HW1 := Lib.hid (Below.after' HW.out hb1 (Nat.le_refl _))
        clear d0 d1 d2 d3 hz hb1 HBX HW
        cases hbq : boundI c.s q with
        | true =>
          have hfin := Lib.hid (HR.out.symm.trans (roundI_same hbq))
          clear hst hbq hbx1
          go_wp2_with fail
          go_ret
          exact ⟨ret_int hfin.out.symm, HW1.out⟩
        | false =>
          have hq0 : q < 0 := by
            rcases hst with h | h
            · rw [hbq] at h; cases h
            · exact h
          have HS2 := Lib.hid (boundI_up hbq hq0)
          clear hst hbq hbx1
          go_wp2_with fail
          go_roundw
          case rel => exact ⟨q + 4294967296, by go_num, by omega, by omega, (roundI_lo _ _).trans HR.out, HS2.out, HBX1.out, HW1.out⟩
          case measure => simp [intOf]; omega
    | false =>
      by_cases hu0 : 0 < u
      · have p1 : decide (0 < u) = true := decide_eq_true hu0
        have HR2 := Lib.hid ((roundI_dn c.s u).trans HR.out)
        clear hbd
        go_wp2_with fail
        go_roundw
        case rel => exact ⟨u - 4294967296, by go_num, by split <;> omega, by omega, HR2.out, HBX1.out, HW1.out⟩
        case measure => simp [intOf]; omega
      · have p1 : decide (0 < u) = false := decide_eq_false hu0
        have HST := Lib.hid (show boundI c.s u = true ∨ u < 0 from .inr (boundI_lowI hbd hu0))
        clear hbd
        go_wp2_with fail
        go_loopw [1] (fun t wr => ∃ u : Int, t = .int .i64 u ∧ -3000000000000 ≤ u ∧ u ≤ 1000000000000 ∧ roundI c.s u = roundI c.s v ∧ (boundI c.s u = true ∨ u < 0) ∧ CBox wr w.heap.size c ∧ Below w.heap.size w wr) (fun t _ => (4000000000000 - intOf t).toNat)
        case atStart => exact ⟨u, rfl, by omega, by omega, HR.out, HST.out, HBX1.out, HW1.out⟩
        case round =>
          clear d0 d1 d2 d3 hz HBX1 HW1 HR HST hu2 hu3 huI HU1
          obtain ⟨q, rfl, hq1, hq2, hr, hst, hbx, hB⟩ := hrel
          have hqI : I64 q := by unfold I64; omega
          have HBX := Lib.hid hbx
          have HW := Lib.hid hB
          have HR := Lib.hid hr
          have d0 := (blk_facts hbx).1 0
          have d1 := (blk_facts hbx).1 1
          have d2 := (blk_facts hbx).1 2
          have d3 := (blk_facts hbx).1 3
          have hz := (Array.getElem?_eq_some_iff.1 hbx).1
          clear hbx hB hr
          go_wp2_with fail
          refine (HBd.out q hqI _).mono ?_
          rintro ex y2 ⟨rfl, hb1⟩
          have hbx1 := HBX.out.grow hb1
          have HBX1 := Lib.hid hbx1
          have HW1 := Lib.hid (Below.after' HW.out hb1 (Nat.le_refl _))
          clear d0 d1 d2 d3 hz hb1 HBX HW
          cases hbq : boundI c.s q with
          | true =>
            have hfin := Lib.hid (HR.out.symm.trans (roundI_same hbq))
            clear hst hbq hbx1
            go_wp2_with fail
            go_ret
            exact ⟨ret_int hfin.out.symm, HW1.out⟩
          | false =>
            have hq0 : q < 0 := by
              rcases hst with h | h
              · rw [hbq] at h; cases h
              · exact h
            have HS2 := Lib.hid (boundI_up hbq hq0)
            clear hst hbq hbx1
            go_wp2_with fail
            go_roundw
            case rel => exact ⟨q + 4294967296, by go_num, by omega, by omega, (roundI_lo _ _).trans HR.out, HS2.out, HBX1.out, HW1.out⟩
            case measure => simp [intOf]; omega
end Go.Proofs.Ytbdkoagagcemcaa

/- The walks of layer 24's reference: a number's plain one, whether it may be written, and its bytes. -/
namespace Go.Proofs.Ytbdkoagagcemcaa
open Go.RowKit

theorem tdiv_pos {x y : Int} (h : 0 ≤ x) (hy : 0 < y) : x.tdiv y = x / y := Int.tdiv_eq_ediv_of_nonneg h
set_option maxHeartbeats 4000000 in
set_option maxRecDepth 100000 in
theorem rplain_far (c : Cod) (v : Int) (h : v < -8589934592 ∨ 8589934592 < v) (w : World) : Calls Try.prog 38 #[c.val, .int .i64 v] w fun ex y => ex = .returned (.tuple #[.int .i64 0, .bool false]) ∧ Below w.heap.size w y := by
  unfold Cod.val
  generalize c.b = B
  generalize c.h = H
  generalize c.d = D
  generalize c.s = S
  clear c
  by_cases h1 : v < -8589934592
  · have p1 : decide (v < -8589934592) = true := decide_eq_true h1
    go_enter Try.func38, Try.ntmps38
    go_wp2_with fail
    go_ret2
    exact ⟨rfl, (Below.refl _ _).alloc (Nat.le_refl _) _⟩
  · have p1 : decide (v < -8589934592) = false := decide_eq_false h1
    have p2 : decide (8589934592 < v) = true := decide_eq_true (by omega)
    go_enter Try.func38, Try.ntmps38
    go_wp2_with fail
    go_ret2
    exact ⟨rfl, (Below.refl _ _).alloc (Nat.le_refl _) _⟩
set_option maxHeartbeats 4000000 in
set_option maxRecDepth 100000 in
theorem rplain_any (c : Cod) (hc : c.ok) (v : Int) (hv1 : -8589934592 ≤ v) (hv2 : v ≤ 8589934592) (w : World) : Calls Try.prog 38 #[c.val, .int .i64 v] w fun ex y => ex = .returned (.tuple #[.int .i64 (plainI c.s v), .bool true]) ∧ Below w.heap.size w y := by
  have h := small_s hc
  have HP := Lib.hid (fun w => rpart_any c hc w)
  unfold Cod.val at *
  unfold plainI
  generalize c.b = B at *
  generalize c.h = H at *
  generalize c.d = D at *
  generalize c.s = S at *
  clear hc c
  have p1 : decide (v < -8589934592) = false := decide_eq_false (by omega)
  have p2 : decide (8589934592 < v) = false := decide_eq_false (by omega)
  rcases h with rfl | rfl | rfl
  · go_enter Try.func38, Try.ntmps38
    go_wp2_with fail
    go_ret2
    exact ⟨rfl, (Below.refl _ _).alloc (Nat.le_refl _) _⟩
  · rw [show ((2 : Int) ^ 1 - 1) = 1 from rfl] at HP
    by_cases h3 : v < 0
    · have p3 : decide (v < 0) = true := decide_eq_true h3
      go_enter Try.func38, Try.ntmps38
      go_wp2_with fail
      refine (HP.out _).mono ?_
      rintro ex y ⟨rfl, hb1⟩
      have HB := Lib.hid (Below.after' ((Below.refl w.heap.size w).alloc (Nat.le_refl _) _) hb1 (by simp))
      clear hb1
      go_wp2_with fail
      go_ret2
      exact ⟨by simp [h3], HB.out⟩
    · have p3 : decide (v < 0) = false := decide_eq_false h3
      go_enter Try.func38, Try.ntmps38
      go_wp2_with fail
      refine (HP.out _).mono ?_
      rintro ex y ⟨rfl, hb1⟩
      have HB := Lib.hid (Below.after' ((Below.refl w.heap.size w).alloc (Nat.le_refl _) _) hb1 (by simp))
      clear hb1
      go_wp2_with fail
      go_ret2
      exact ⟨by simp [h3], HB.out⟩
  · rw [show ((2 : Int) ^ 2 - 1) = 3 from rfl] at HP
    by_cases h3 : v < 0
    · have p3 : decide (v < 0) = true := decide_eq_true h3
      go_enter Try.func38, Try.ntmps38
      go_wp2_with fail
      refine (HP.out _).mono ?_
      rintro ex y ⟨rfl, hb1⟩
      have HB := Lib.hid (Below.after' ((Below.refl w.heap.size w).alloc (Nat.le_refl _) _) hb1 (by simp))
      clear hb1
      go_wp2_with fail
      go_ret2
      exact ⟨by simp [h3], HB.out⟩
    · have p3 : decide (v < 0) = false := decide_eq_false h3
      go_enter Try.func38, Try.ntmps38
      go_wp2_with fail
      refine (HP.out _).mono ?_
      rintro ex y ⟨rfl, hb1⟩
      have HB := Lib.hid (Below.after' ((Below.refl w.heap.size w).alloc (Nat.le_refl _) _) hb1 (by simp))
      clear hb1
      go_wp2_with fail
      go_ret2
      exact ⟨by simp [h3], HB.out⟩
theorem fits_far {c : Cod} (hc : c.ok) {v : Int} (h : v < -8589934592 ∨ 8589934592 < v) : c.fits (plainI c.s v) = false := by
  rw [← plainP_fits c hc.2.2.2.2.1 v]
  unfold plainP
  rw [if_pos h]
  unfold Cod.fits
  exact decide_eq_false (by omega)
theorem fits_and (c : Cod) (u : Int) : c.fits u = (decide (0 ≤ u) && decide (u < (c.reach : Int))) := by unfold Cod.fits; rw [Bool.decide_and]
set_option maxHeartbeats 4000000 in
set_option maxRecDepth 100000 in
theorem rfits_any (c : Cod) (hc : c.ok) (v : Int) (w : World) : Calls Try.prog 37 #[c.val, .int .i64 v] w fun ex y => ex = .returned (.bool (c.fits (plainI c.s v))) ∧ Below w.heap.size w y := by
  have HRt := Lib.hid (fun w => rright_any c hc w)
  have HRc := Lib.hid (fun w => rreach_any c hc w)
  have HF := Lib.hid (fun h w => rplain_far c v h w)
  have HP := Lib.hid (fun h1 h2 w => rplain_any c hc v h1 h2 w)
  have hin := Lib.hid (fun h1 h2 => plainI_in (s := c.s) hc.2.2.2.2.1 (v := v) h1 h2)
  have hff := Lib.hid (fun h => fits_far (c := c) hc (v := v) h)
  have hand := Lib.hid (fits_and c (plainI c.s v))
  unfold Cod.val at *
  clear hc
  go_enter Try.func37, Try.ntmps37
  go_wp2_with fail
  refine (HRt.out _).mono ?_
  rintro ex y ⟨rfl, hb1⟩
  have hbx : CBox y w.heap.size c := (hb1.block w.heap.size (by simp)).trans (heap_alloc_new w _)
  have HB1 := Lib.hid (Below.after' ((Below.refl w.heap.size w).alloc (Nat.le_refl _) _) hb1 (by simp))
  have HBX := Lib.hid hbx
  have d0 := (blk_facts hbx).1 0
  have d1 := (blk_facts hbx).1 1
  have d2 := (blk_facts hbx).1 2
  have d3 := (blk_facts hbx).1 3
  have hz := (Array.getElem?_eq_some_iff.1 hbx).1
  clear hb1 hbx
  by_cases hf : v < -8589934592 ∨ 8589934592 < v
  · have hfin := Lib.hid (hff.out hf)
    have HP9 := Lib.hid (HF.out hf)
    clear hf
    go_wp2_with fail
    refine (HP9.out _).mono ?_
    rintro ex z ⟨rfl, hb2⟩
    have HB2 := Lib.hid (Below.after' HB1.out hb2 (Nat.le_refl _))
    clear hb2
    go_wp2_with fail
    go_ret
    exact ⟨by rw [hfin.out]; rfl, HB2.out⟩
  · have HP9 := Lib.hid (HP.out (by omega) (by omega))
    obtain ⟨i1, i2⟩ := hin.out (by omega) (by omega)
    clear hf
    generalize hu : plainI c.s v = u at *
    have HU := Lib.hid hu
    clear hu
    go_wp2_with fail
    refine (HP9.out _).mono ?_
    rintro ex z ⟨rfl, hb2⟩
    have HB2 := Lib.hid (Below.after' HB1.out hb2 (Nat.le_refl _))
    have hbx2 := HBX.out.grow hb2
    clear hb2 d0 d1 d2 d3 hz
    have d0 := (blk_facts hbx2).1 0
    have d1 := (blk_facts hbx2).1 1
    have d2 := (blk_facts hbx2).1 2
    have d3 := (blk_facts hbx2).1 3
    have hz := (Array.getElem?_eq_some_iff.1 hbx2).1
    clear hbx2
    by_cases h0 : 0 ≤ u
    · have p0 : decide (0 ≤ u) = true := decide_eq_true h0
      go_wp2_with fail
      refine (HRc.out _).mono ?_
      rintro ex z2 ⟨rfl, hb3⟩
      have HB3 := Lib.hid (Below.after' HB2.out hb3 (Nat.le_refl _))
      clear hb3
      go_wp2_with fail
      go_ret
      exact ⟨by rw [HU.out, hand.out, p0]; rfl, HB3.out⟩
    · have p0 : decide (0 ≤ u) = false := decide_eq_false h0
      go_wp2_with fail
      go_ret
      exact ⟨by rw [HU.out, hand.out, p0]; rfl, HB2.out⟩
end Go.Proofs.Ytbdkoagagcemcaa
