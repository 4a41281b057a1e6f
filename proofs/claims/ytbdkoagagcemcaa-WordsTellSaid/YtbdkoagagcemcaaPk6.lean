/- Joined texts: PpWalksJ, PpWalksG, PpWalksH, PpWalksK, BdG, BdH, BdI, BdJ, Rcur. -/
import Derived.Test.YtbdkoagagcemcaaPk5
import Derived.Shelf.SlIterI.Collect
import Derived.Shelf.SlSortCmp.NoneTotal
import Derived.Test.YtbdkoagagcemcaaPk3
import Derived.Test.YtbdkoagagcemcaaPk4
import Derived.BigRegion
import Derived.Deep.RegionLaw
/- The walk of layer 25: the keys of a map, collected and sorted by a closure. -/
namespace Go.Proofs.Ytbdkoagagcemcaa.Pp
open Go.RowKit Go.Maps

abbrev encX (x : Int) : Value := .int .i64 (nx x)
theorem sort_block {w : World} {blk off n : Nat} {d : Array Int} {os : Array Obj} {k : Nat} (h1 : k ≠ blk) (h2 : k < w.heap.size) : (sortWorld encX w blk off n d os).heap[k]? = w.heap[k]? := by
  unfold sortWorld
  rw [Sort.heap_grow_old _ _ (by simpa using h2)]
  simp [Sort.putRow, Sort.mapBlock, Sort.ahead, Array.getElem?_modify, Ne.symm h1]
theorem sort_grown (w : World) (blk off n : Nat) (d : Array Int) (os : Array Obj) : w.grownBy (sortWorld encX w blk off n d os) (some blk) :=
  ⟨rfl, rfl, rfl, by unfold sortWorld; simp, fun _ hk hne => sort_block (fun e => hne (by rw [e])) hk⟩

theorem cf_lt (f : Int → Int) (a b : Int) : Po.cf f a b < 0 ↔ f b < f a ∨ (f a = f b ∧ a < b) := by
  unfold Po.cf Lib.compareInt
  simp only [Po.orr]
  by_cases h1 : f b < f a
  · simp [h1]
  · by_cases h2 : f a < f b
    · simp [h1, h2]; omega
    · have e : f a = f b := by omega
      by_cases h3 : a < b
      · simp [e, h3]
      · by_cases h4 : b < a
        · simp [e, h3, h4]
        · simp [e, h3, h4]
def cfX (f : Int → Int) (x y : Int) : Int := Po.cf f (nx x) (nx y)
theorem ltX (f : Int → Int) (x y : Int) : ltOf (cfX f) x y = decide (f (nx y) < f (nx x) ∨ (f (nx x) = f (nx y) ∧ nx x < nx y)) := by
  unfold ltOf cfX
  exact decide_eq_decide.2 (cf_lt f _ _)
theorem swoX (f : Int → Int) : Sort.SWO (ltOf (cfX f)) where
  irrefl x := by rw [ltX]; simp
  trans x y z h1 h2 := by rw [ltX, decide_eq_true_eq] at *; omega
  ntrans x y z h1 h2 := by rw [ltX, decide_eq_false_iff_not] at *; omega

theorem cmpLays (D : DataW Unit) (f : Int → Int) (b n B blk off size : Nat) (w : World) (hO : OMap w b n D) (hM : MapIs D f) (hc : w.cell? ⟨B, 0, none⟩ = some (.map (some b))) (hB : B < w.heap.size) (h1 : B ≠ blk) (h2 : b ≠ blk) :
    CmpLays1 Try.prog 77 #[.pointer (some ⟨B, 0, none⟩)] encX (cfX f) blk off size w := fun m os dk _ x y => by
  refine (cmp2_any D f b n B _ (nx x) (nx y) (hO.kept (sort_grown w blk off m dk os) (by simp [h2])) hM ((World.cell?_of_block (sort_block h1 hB)).trans hc) (nx_in x) (nx_in y)).mono ?_
  rintro e w' ⟨rfl, o, rfl⟩
  exact ⟨rfl, 0, #[o], Sort.alloc_eq_grow _ _⟩

theorem ihold {w : World} {g : Nat} {cur : Array Value} {e : TypeId} {ss : List Int} (hb : w.heap[g]? = some (.cells cur e (0, 0))) (ht : cur.toList.take ss.length = ic ss) (hI : ∀ x ∈ ss, I64 x) : Sort.Holds encX w g 0 ss.toArray := by
  intro j hj
  have hj' : j < ss.length := by simpa using hj
  refine ⟨?_, by simp [World.frozen?, hb]⟩
  have h1 : (cur.toList.take ss.length)[j]? = (ic ss)[j]? := by rw [ht]
  rw [List.getElem?_take_of_lt hj'] at h1
  simp only [World.cell?, hb, Nat.zero_add]
  simp only [Option.isSome_none, Bool.false_eq_true, if_false]
  rw [← Array.getElem?_toList, h1]
  have h2 : nx ss[j] = ss[j] := nx_same (hI _ (List.getElem_mem hj'))
  simp [hj', ic, h2]
theorem isorted {w : World} {base g cap n : Nat} {os : Array Obj} {cur : Array Value} {ss : List Int} {d : Array Int} (hl : d.size = ss.length) (hI : ∀ x ∈ d.toList, I64 x) (hbase : base ≤ g) (hb : w.heap[g]? = some (.cells cur 3 (0, 0)))
    (h1 : ss.length ≤ cap) (h2 : cap ≤ maxLen) (h3 : cur.size = cap * 1) : IRow (sortWorld encX w g 0 n d os) base (.slice (some ⟨g, 0, none⟩) ss.length cap) d.toList := by
  have hg : g < w.heap.size := (Array.getElem?_eq_some_iff.1 hb).1
  have hblk : (sortWorld encX w g 0 n d os).heap[g]? = some (.cells (Sort.putCells encX 0 d cur) 3 (0, 0)) := by
    unfold sortWorld
    rw [Sort.heap_grow_old _ _ (by simpa using hg)]
    simp [Sort.putRow, Sort.mapBlock, Sort.ahead, Array.getElem?_modify, hb, Sort.onCells]
  have e : d.toList.length = ss.length := by simpa using hl
  unfold IRow
  rw [e]
  refine ⟨by simp [ic_length, hl], .inr ⟨g, cap, _, rfl, hbase, hblk, h1, h2, by simp [Sort.putCells, h3], ?_⟩⟩
  rw [Nat.mul_one]
  apply List.ext_getElem?
  intro j
  by_cases hj : j < ss.length
  · have hj2 : j < d.size := by omega
    have hx : nx d[j] = d[j] := nx_same (hI _ (by simp))
    rw [List.getElem?_take_of_lt hj, Array.getElem?_toList]
    simp [Sort.putCells, ic, hj2, show j < cur.size by omega, hx]
  · rw [List.getElem?_take_eq_none (by omega), List.getElem?_eq_none (by simp [ic_length]; omega)]

/-- The order of the favorites by a number f: more, or as many and less. -/
def befF (f : Int → Int) (a b : Int) : Prop := f b < f a ∨ (f a = f b ∧ a < b)
theorem sorted_pairwise (f : Int → Int) (d : Array Int) (hnd : d.toList.Nodup) (hI : ∀ x ∈ d.toList, I64 x) (hs : Sort.SortedIn (ltOf (cfX f)) 0 d.size d) : d.toList.Pairwise (befF f) := by
  rw [List.pairwise_iff_getElem]
  intro i j hi hj hij
  have hi' : i < d.size := by simpa using hi
  have hj' : j < d.size := by simpa using hj
  have h := hs i j (Nat.zero_le _) hij hj'
  have e1 : d[i]! = d.toList[i] := by simp [hi']
  have e2 : d[j]! = d.toList[j] := by simp [hj']
  rw [ltX, e1, e2, nx_same (hI _ (List.getElem_mem hi)), nx_same (hI _ (List.getElem_mem hj)), decide_eq_false_iff_not] at h
  have hne : d.toList[i] ≠ d.toList[j] := (List.pairwise_iff_getElem.1 hnd) i j hi hj hij
  unfold befF
  omega

set_option maxHeartbeats 4000000 in
theorem sorted_any (D : DataW Unit) (f : Int → Int) (b n B Bm : Nat) (w : World) (hO : OMap w b n D) (hM : MapIs D f) (hc : w.cell? ⟨B, 0, none⟩ = some (.map (some b))) (hB : B < w.heap.size) (hcm : w.cell? ⟨Bm, 0, none⟩ = some (.map (some b))) (hBm : Bm < w.heap.size) (hD : Maps.size D ≤ 1000000) :
    Calls Try.prog 75 #[.func (.func 97) #[] #[.pointer (some ⟨Bm, 0, none⟩)], .func (.func 77) #[] #[.pointer (some ⟨B, 0, none⟩)]] w fun e w' => ∃ v S, e = .returned v ∧ IRow w' w.heap.size v S ∧ (∀ x, x ∈ S ↔ f x ≠ 0) ∧ S.Pairwise (befF f) ∧ Below w.heap.size w w' := by
  obtain ⟨hnd, hmem, hI, hlen⟩ := hM.keys hO
  have hseq : SeqGives Fence.wide 2 Try.prog 97 #[.pointer (some ⟨Bm, 0, none⟩)] encZ (fun ss => ss.Perm (intKeys D)) (Maps.size D) w :=
    AnyZI.keys_gives (ρ := Try.keysA_ren) { Try.keysA with } Fence.wide _ trivial rfl (by omega) Bm b n D w hBm hcm hO
  have hcol := callsIn_wide.1 (AnyZI.collect_in Try.collectA Fence.wide 4 trivial trivial rfl (by omega) 97 #[.pointer (some ⟨Bm, 0, none⟩)] trivial (enters_of Try.func97 (by kernel_rfl) rfl) _ _ (by unfold maxLen; omega) (by omega) w hseq)
  change Calls _ 95 _ _ _ at hcol
  have HC := Lib.hid hcol
  have hbl := hO.lt
  have HO := Lib.hid hO
  have HCB := Lib.hid hc
  have HI := Lib.hid hI
  have HND := Lib.hid hnd
  have HMEM := Lib.hid hmem
  clear hcol hseq hO hc hcm hI hnd hmem
  go_enter Try.func75, Try.ntmps75
  go_wp2_with fail
  refine HC.out.mono ?_
  rintro e w1 ⟨v, ss, rfl, hS, hrow, hnil, hb⟩
  have hSI : ∀ x ∈ ss, I64 x := fun x hx => HI.out x (hS.mem_iff.1 hx)
  have hSM : ∀ x, x ∈ ss ↔ f x ≠ 0 := fun x => (hS.mem_iff).trans (HMEM.out x)
  have hSN : ss.Nodup := hS.nodup_iff.2 HND.out
  have hSL : ss.length ≤ 1000000 := by rw [hS.length_eq, hlen]; exact hD
  have HB := Lib.hid hb
  clear HC
  by_cases h0 : ss = []
  · subst h0
    have hv := hnil.2 rfl
    subst hv
    have HM0 := Lib.hid hSM
    clear hSI hSM hSN hrow hnil hb hS
    have hsn := AnyF.slices_SortFunc_none { Try.sortA with } none 0 (.func (.func 77) #[] #[.pointer (some ⟨B, 0, none⟩)]) w1
    change Calls _ 96 _ _ _ at hsn
    go_wp2_with fail
    refine hsn.mono ?_
    rintro e w' ⟨rfl, rfl⟩
    clear hsn
    go_wp2
    go_ret
    exact ⟨_, [], rfl, IRow.nil _ _, HM0.out, List.Pairwise.nil, HB.out⟩
  · rcases hrow.2 with ⟨_, hn⟩ | ⟨g, cap, cur, rfl, hbase, hb1, h1, h2, h3, h4⟩
    · exact absurd (List.eq_nil_of_length_eq_zero hn) h0
    · have hg : g < w1.heap.size := (Array.getElem?_eq_some_iff.1 hb1).1
      have hO1 := HO.out.keep hb
      have hc1 : w1.cell? ⟨B, 0, none⟩ = some (.map (some b)) := (hb.cell (p := ⟨B, 0, none⟩) hB).trans HCB.out
      have hB1 : B < w1.heap.size := Nat.lt_of_lt_of_le hB hb.size
      have hsrt := Any.slices_SortFunc Try.sortA encX (fun _ => rfl) (cfX f) (swoX f) 77 #[.pointer (some ⟨B, 0, none⟩)] g 0 cap ss.toArray w1 (enters_of Try.func77 (by kernel_rfl) rfl)
        (cmpLays D f b n B g 0 _ w1 hO1 hM hc1 hB1 (by omega) (by omega)) (ihold hb1 (by rw [Nat.mul_one] at h4; exact h4) hSI) hg (by simp; omega)
      have esz : ss.toArray.size = ss.length := by simp
      rw [esz] at hsrt
      change Calls _ 96 _ _ _ at hsrt
      have HS := Lib.hid hsrt
      have HSI := Lib.hid hSI
      have HSM := Lib.hid hSM
      have HSN := Lib.hid hSN
      have HB1 := Lib.hid hb1
      have H4 := Lib.hid h3
      clear hsrt hSI hSM hSN hb1 hS hrow hnil hb hO1 hc1 h0 h3 h4
      go_wp2_with fail
      refine HS.out.mono ?_
      rintro e w' ⟨rfl, d', m, os, hp, hs, rfl⟩
      have hd1 : d'.size = ss.length := by rw [hp.1]; simp
      have hperm : d'.toList.Perm ss := by
        have := hp.2.2
        have e1 : d'.extract 0 ss.length = d' := by rw [← hd1]; simp
        have e2 : ss.toArray.extract 0 ss.length = ss.toArray := by rw [← esz]; exact Array.extract_size
        rw [e1, e2] at this
        exact this
      have hI2 : ∀ x ∈ d'.toList, I64 x := fun x hx => HSI.out x (hperm.mem_iff.1 hx)
      rw [← hd1] at hs
      have hpw := Lib.hid (sorted_pairwise f d' (hperm.nodup_iff.2 HSN.out) hI2 hs)
      have hrow2 := Lib.hid (isorted (n := m) (os := os) hd1 hI2 hbase HB1.out h1 h2 H4.out)
      have hmm := Lib.hid (fun x => (hperm.mem_iff (a := x)).trans (HSM.out x))
      have HB2 := Lib.hid (HB.out.grown (sort_grown w1 g 0 m d' os) HB.out.size (fun j hj => by cases hj; exact hbase))
      clear hp hs hperm hI2 HS
      go_wp2
      go_ret
      exact ⟨_, _, rfl, hrow2.out, hmm.out, hpw.out, HB2.out⟩
end Go.Proofs.Ytbdkoagagcemcaa.Pp
/- The walk of layer 25's reference: joining. -/
namespace Go.Proofs.Ytbdkoagagcemcaa.Pp
open Go.RowKit Go.Maps

theorem joinRes_err {fs ts rs : List Int} {w w' : World} {e : Ending} {v : Int} (h : Po.err fs ts rs = v) (hv : v ≠ 0) (he : e = .returned (.tuple #[.slice none 0 0, .int .i64 v])) (hB : Below w.heap.size w w') : JoinRes fs ts rs w e w' :=
  ⟨none, 0, by rw [he, h, show Po.out fs ts rs = [] from if_neg (by rw [h]; exact hv)]; rfl, ⟨by rw [show Po.out fs ts rs = [] from if_neg (by rw [h]; exact hv)]; exact Ints.nil _ _ _, fun g o e => by cases e⟩, hB⟩

set_option maxHeartbeats 8000000 in
set_option maxRecDepth 100000 in
theorem rjoin_any (A B C : Option Addr) (c d k : Nat) (fs ts rs : List Int) (w : World) (hx : Ints w A c fs) (hy : Ints w B d ts) (hz : Ints w C k rs)
    (hn : fs.length ≤ 100000) (hm : ts.length ≤ 100000) (hl : rs.length ≤ 100000) :
    Calls Try.prog 42 #[.slice A fs.length c, .slice B ts.length d, .slice C rs.length k] w (JoinRes fs ts rs w) := by
  have HX := Lib.hid hx
  have HY := Lib.hid hy
  have HZ := Lib.hid hz
  have HCf := Lib.hid (fun v => count_any A c fs v w hx (by omega))
  have HCt := Lib.hid (count_any B d ts 0 w hy (by omega))
  have HCr := Lib.hid (fun v => count_any C k rs v w hz (by omega))
  clear hx hy hz
  go_enter Try.func42, Try.ntmps42
  go_wp2_with fail
  go_loop [17] (fun u => ∃ i : Nat, i ≤ ts.length ∧ u = .int .i64 i ∧ Po.bad fs (ts.take i) = false) (fun u => ts.length - (intOf u).toNat)
  case atStart => exact ⟨0, Nat.zero_le _, rfl, rfl⟩
  case round =>
    obtain ⟨i, hil, rfl, hbad⟩ := hrel
    have HN := Lib.hid hbad
    by_cases h1 : i < ts.length
    · obtain ⟨g, o, x, rfl, hg, hxi, hct⟩ := HY.out.at_ h1
      have htk := Lib.hid (take_snocI ts i x hxi)
      have hmem := Lib.hid (List.mem_of_getElem? hxi)
      have hbd := Lib.hid (show Po.bad fs (ts.take (i + 1)) = (decide (x < 0) || decide ((fs.length : Int) < x)) by
        rw [htk.out]; unfold Po.bad; rw [List.any_append]
        have := HN.out; unfold Po.bad at this; rw [this]; simp)
      clear hxi hbad
      by_cases hneg : x < 0
      · have q : decide (x < 0) = true := by simp [hneg]
        have hfin := Lib.hid (show Po.err fs ts rs = 5 from if_pos (List.any_eq_true.2 ⟨x, hmem.out, by simp [hneg]⟩))
        clear hneg
        go_wp2
        go_ret2
        exact joinRes_err hfin.out (by omega) rfl (Below.refl _ _)
      · have q : decide (x < 0) = false := by simp [hneg]
        by_cases hbig : (fs.length : Int) < x
        · have q2 : decide ((fs.length : Int) < x) = true := by simp [hbig]
          have hfin := Lib.hid (show Po.err fs ts rs = 5 from if_pos (List.any_eq_true.2 ⟨x, hmem.out, by simp [hbig]⟩))
          clear hneg hbig
          go_wp2
          go_ret2
          exact joinRes_err hfin.out (by omega) rfl (Below.refl _ _)
        · have q2 : decide ((fs.length : Int) < x) = false := by simp [hbig]
          have hnb := Lib.hid (hbd.out.trans (by rw [q, q2, Bool.or_false]))
          clear hneg hbig
          go_wp2
          go_round
          case rel => exact ⟨i + 1, by omega, by go_num, hnb.out⟩
          case measure => simp [intOf]; omega
    · have hfin : ts.take i = ts := List.take_of_length_le (by omega)
      rw [hfin] at hbad
      have HBAD := Lib.hid hbad
      have HE := Lib.hid (show Po.err fs ts rs = if Po.twice fs rs then 10 else if rs.length < ts.count 0 then 6 else if ts.count 0 < rs.length then 2 else 0 from if_neg (by rw [hbad]; simp))
      clear hfin hbad HN
      go_wp2_with fail
      go_loop [32] (fun u => ∃ j : Nat, j ≤ fs.length ∧ u = .int .i64 j ∧ ∀ f ∈ fs.take j, ¬ (fs.count f > 1 ∨ rs.count f > 0)) (fun u => fs.length - (intOf u).toNat)
      case atStart => exact ⟨0, Nat.zero_le _, rfl, fun f hf => by simp at hf⟩
      case round =>
        obtain ⟨j, hjl, rfl, hno⟩ := hrel
        have HN := Lib.hid hno
        by_cases h2 : j < fs.length
        · obtain ⟨g, o, f, rfl, hg, hfi, hcf⟩ := HX.out.at_ h2
          have hmem := Lib.hid (List.mem_of_getElem? hfi)
          have htk := Lib.hid (take_snocI fs j f hfi)
          have hce : fs.count f ≤ 1000000 := Nat.le_trans List.count_le_length (by omega)
          have hcr : rs.count f ≤ 1000000 := Nat.le_trans List.count_le_length (by omega)
          clear hfi hno
          have hF := Lib.hid (HCf.out f)
          have hR := Lib.hid (HCr.out f)
          generalize hcm : rs.count f = m at hR hcr
          generalize hcn : fs.count f = n at hF hce
          have HCM := Lib.hid hcm
          have HCN := Lib.hid hcn
          clear hcm hcn
          by_cases hg1 : 1 < n
          · have q : decide (1 < n) = true := by simp [hg1]
            have q' : decide ((1 : Int) < ((n : Nat) : Int)) = true := by simp; omega
            have hfin := Lib.hid (HE.out.trans (if_pos ((Po.twice_iff fs rs).2 ⟨f, hmem.out, .inl (by rw [HCN.out]; exact hg1)⟩)))
            clear hg1
            go_wp2_with fail
            refine hF.out.mono ?_
            rintro e w' ⟨rfl, rfl⟩
            go_wp2
            go_ret2
            exact joinRes_err hfin.out (by omega) rfl (Below.refl _ _)
          · have q : decide (1 < n) = false := by simp; omega
            have q' : decide ((1 : Int) < ((n : Nat) : Int)) = false := by simp; omega
            by_cases hg2 : 0 < m
            · have q2 : decide (0 < m) = true := by simp; omega
              have q2' : decide ((0 : Int) < ((m : Nat) : Int)) = true := by simp; omega
              have hfin := Lib.hid (HE.out.trans (if_pos ((Po.twice_iff fs rs).2 ⟨f, hmem.out, .inr (by rw [HCM.out]; exact hg2)⟩)))
              clear hg1 hg2
              go_wp2_with fail
              refine hF.out.mono ?_
              rintro e w' ⟨rfl, rfl⟩
              go_wp2_with fail
              refine hR.out.mono ?_
              rintro e w' ⟨rfl, rfl⟩
              go_wp2
              go_ret2
              exact joinRes_err hfin.out (by omega) rfl (Below.refl _ _)
            · have q2 : decide (0 < m) = false := decide_eq_false hg2
              have q2' : decide ((0 : Int) < ((m : Nat) : Int)) = false := decide_eq_false (by omega)
              have hnx := Lib.hid (show ∀ y ∈ fs.take (j + 1), ¬ (fs.count y > 1 ∨ rs.count y > 0) from fun y hy => by
                rw [htk.out, List.mem_append] at hy
                rcases hy with h | h
                · exact HN.out y h
                · rw [List.mem_singleton] at h; subst h; rw [HCN.out, HCM.out]; omega)
              clear hg1 hg2
              go_wp2_with fail
              refine hF.out.mono ?_
              rintro e w' ⟨rfl, rfl⟩
              go_wp2_with fail
              refine hR.out.mono ?_
              rintro e w' ⟨rfl, rfl⟩
              go_wp2
              go_round
              case rel => exact ⟨j + 1, by omega, by go_num, hnx.out⟩
              case measure => simp [intOf]; omega
        · have hfin : fs.take j = fs := List.take_of_length_le (by omega)
          rw [hfin] at hno
          have htw : Po.twice fs rs = false := by
            cases h : Po.twice fs rs with
            | false => rfl
            | true => obtain ⟨f, hf, h2⟩ := (Po.twice_iff fs rs).1 h; exact absurd h2 (hno f hf)
          have HE2 := Lib.hid (HE.out.trans (if_neg (by rw [htw]; simp)))
          have hct : ts.count 0 ≤ 1000000 := Nat.le_trans List.count_le_length (by omega)
          clear htw hno hfin HN HE
          have hT := Lib.hid HCt.out
          generalize hcz : ts.count 0 = z at hT hct
          have HCZ := Lib.hid hcz
          rw [hcz] at HE2
          clear hcz
          by_cases hlt : rs.length < z
          · have q : decide (rs.length < z) = true := by simp [hlt]
            have hfin2 := Lib.hid (HE2.out.trans (if_pos hlt))
            clear hlt
            go_wp2_with fail
            refine hT.out.mono ?_
            rintro e w' ⟨rfl, rfl⟩
            go_wp2
            go_ret2
            exact joinRes_err hfin2.out (by omega) rfl (Below.refl _ _)
          · have q : decide (rs.length < z) = false := by simp [hlt]
            by_cases hgt : z < rs.length
            · have q2 : decide (z < rs.length) = true := by simp [hgt]
              have hfin2 := Lib.hid (HE2.out.trans ((if_neg hlt).trans (if_pos hgt)))
              clear hlt hgt
              go_wp2_with fail
              refine hT.out.mono ?_
              rintro e w' ⟨rfl, rfl⟩
              go_wp2_with fail
              refine hT.out.mono ?_
              rintro e w' ⟨rfl, rfl⟩
              go_wp2
              go_ret2
              exact joinRes_err hfin2.out (by omega) rfl (Below.refl _ _)
            · have q2 : decide (z < rs.length) = false := by simp [hgt]
              have hE0 := Lib.hid (HE2.out.trans ((if_neg hlt).trans (if_neg hgt)))
              have hfin2 := Lib.hid (show Po.out fs ts rs = Po.rowN fs ts rs ts.length from if_pos hE0.out)
              have hzr := Lib.hid (show ts.count 0 = rs.length by rw [HCZ.out]; omega)
              clear hlt hgt HCf HCr HCt
              go_wp2_with fail
              refine hT.out.mono ?_
              rintro e w' ⟨rfl, rfl⟩
              go_wp2_with fail
              refine hT.out.mono ?_
              rintro e w' ⟨rfl, rfl⟩
              clear hT
              go_wp2_with fail
              go_loopw [2, 12, 59] (fun v a u wr => ∃ i : Nat, i ≤ ts.length ∧ u = .int .i64 i ∧ (∃ A' c', v = .slice A' (rs.drop ((ts.take i).count 0)).length c' ∧ Ints w A' c' (rs.drop ((ts.take i).count 0))) ∧ IRow wr w.heap.size a (Po.rowN fs ts rs i) ∧ Below w.heap.size w wr) (fun _ _ u _ => ts.length - (intOf u).toNat)
              case atStart => exact ⟨0, Nat.zero_le _, rfl, ⟨C, k, rfl, HZ.out⟩, IRow.nil _ _, Below.refl _ _⟩
              case round =>
                obtain ⟨i, hil, rfl, ⟨A', c', rfl, hrest⟩, hrow, hB⟩ := hrel
                have HB := Lib.hid hB
                have HR := Lib.hid hrest
                have HO := Lib.hid hrow
                have hln := Po.rowN_length fs ts rs i
                by_cases h3 : i < ts.length
                · obtain ⟨g, o, x, rfl, hg, hxi, hct2⟩ := (HY.out.grow hB).at_ h3
                  have hxr := Po.bad_at HBAD.out hxi
                  have hcs := Lib.hid (Po.count_step hxi)
                  have HXI := Lib.hid hxi
                  have hsz := HB.out.size
                  clear hB hrest hrow hxi
                  by_cases hx0 : x = 0
                  · subst hx0
                    have q : decide ((0 : Int) < 0) = false := rfl
                    have hrm := Po.room HXI.out
                    rw [hzr.out] at hrm
                    have hcs2 := Lib.hid (hcs.out.trans (by rw [if_pos rfl]))
                    obtain ⟨y, hyr⟩ : ∃ y, rs[(ts.take i).count 0]? = some y := ⟨_, List.getElem?_eq_getElem hrm⟩
                    have hdr := drop_at hyr
                    have hel := Lib.hid (Po.el_rest (fs := fs) HXI.out hyr)
                    have hR2 := HR.out
                    rw [hdr] at hR2 ⊢
                    obtain ⟨g2, o2, rfl, hg2, hc2, hcap, hnx⟩ := hR2.next
                    have hcell2 : wr.cell? ⟨g2, o2, none⟩ = some (.int .i64 y) := (HB.out.cell (p := ⟨g2, o2, none⟩) hg2).trans hc2
                    have HN := Lib.hid hnx
                    rw [← hcs2.out] at HN ⊢
                    have HS := Lib.hid (show Po.rowN fs ts rs (i + 1) = Po.rowN fs ts rs i ++ [y] by rw [Po.rowN_succ, hel.out])
                    clear HR hc2 hR2 hdr hyr hcs hnx hg2
                    generalize hrr : rs.drop ((ts.take (i + 1)).count 0) = rs2 at *
                    have HRR := Lib.hid hrr
                    clear hrr
                    simp only [List.length_cons]
                    go_wp2_with (at_builtin; refine wpList_app1 rfl _ _ rfl w.heap.size u12 _ rfl (HO.out.grow ((Below.refl _ _).alloc (Nat.le_refl _) _)) wr.heap.size y _ _ rfl (heap_alloc_new _ _) (by omega) (by simp; omega) ?_)
                    intro v' w1 hown1 hhop1
                    have hR1 := Lib.hid hown1
                    have HB1 := Lib.hid ((HO.out.grow ((Below.refl _ _).alloc (Nat.le_refl _) (.cells #[.int .i64 y] 3))).hop_below hhop1 (HB.out.alloc hsz _) (Nat.le_refl _) (Nat.le_refl _))
                    clear hown1 hhop1
                    go_wp2
                    go_roundw
                    case rel => exact ⟨i + 1, by omega, by go_num, ⟨_, _, by rw [HRR.out], by rw [HRR.out]; exact HN.out⟩, by rw [HS.out]; exact hR1.out, HB1.out⟩
                    case measure => simp [intOf]; omega
                  · obtain ⟨m, rfl⟩ : ∃ m : Nat, x = ((m + 1 : Nat) : Int) := ⟨(x - 1).toNat, by omega⟩
                    have q : decide ((0 : Int) < ((m + 1 : Nat) : Int)) = true := by simp
                    obtain ⟨g2, o2, y, rfl, hg2, hyr, hcell2⟩ := (HX.out.grow HB.out).at_ (i := m) (by omega)
                    have ek : ((m + 1 : Nat) : Int) - 1 = (m : Int) := by omega
                    have hel := Lib.hid (Po.el_place (rs := rs) HXI.out hyr)
                    have hcs2 := Lib.hid (hcs.out.trans (by rw [if_neg hx0, Nat.add_zero]))
                    have hmf : m < fs.length := by omega
                    have HS := Lib.hid (show Po.rowN fs ts rs (i + 1) = Po.rowN fs ts rs i ++ [y] by rw [Po.rowN_succ, hel.out])
                    rw [← hcs2.out] at HR ⊢
                    generalize hrr : rs.drop ((ts.take (i + 1)).count 0) = rs2 at *
                    have HRR := Lib.hid hrr
                    clear hrr hcs hyr hxr hx0
                    go_wp2_with (at_builtin; refine wpList_app1 rfl _ _ rfl w.heap.size u12 _ rfl (HO.out.grow ((Below.refl _ _).alloc (Nat.le_refl _) _)) wr.heap.size y _ _ rfl (heap_alloc_new _ _) (by omega) (by simp; omega) ?_)
                    intro v' w1 hown1 hhop1
                    have hR1 := Lib.hid hown1
                    have HB1 := Lib.hid ((HO.out.grow ((Below.refl _ _).alloc (Nat.le_refl _) (.cells #[.int .i64 y] 3))).hop_below hhop1 (HB.out.alloc hsz _) (Nat.le_refl _) (Nat.le_refl _))
                    clear hown1 hhop1
                    go_wp2
                    go_roundw
                    case rel => exact ⟨i + 1, by omega, by go_num, ⟨_, _, by rw [HRR.out], by rw [HRR.out]; exact HR.out⟩, by rw [HS.out]; exact hR1.out, HB1.out⟩
                    case measure => simp [intOf]; omega
                · have hii : i = ts.length := by omega
                  rw [hii] at hrow
                  obtain ⟨A2, c2, rfl, hrd, hfr⟩ := hrow.readsB
                  rw [Po.rowN_length] at *
                  have HF := Lib.hid hrd
                  have HFR := Lib.hid hfr
                  clear hfr hrest hrow hrd hB HR HO
                  go_wp2
                  go_ret2
                  exact ⟨_, _, by rw [hfin2.out, Po.rowN_length, hE0.out]; rfl, ⟨by rw [hfin2.out]; exact HF.out, HFR.out⟩, HB.out⟩
end Go.Proofs.Ytbdkoagagcemcaa.Pp
/- The walk of layer 25's reference: the favorites. -/
namespace Go.Proofs.Ytbdkoagagcemcaa.Pp
open Go.RowKit Go.Maps

/-- What the call comes to. -/
def FavRes (l : List Int) (most : Int) (w : World) (e : Ending) (w' : World) : Prop :=
  ∃ A c, e = .returned (.slice A (Po.favs l most.toNat).length c) ∧ Ints w' A c (Po.favs l most.toNat) ∧ Below w.heap.size w w'

end Go.Proofs.Ytbdkoagagcemcaa.Pp
/- The walk of layer 25: the favorites. -/
namespace Go.Proofs.Ytbdkoagagcemcaa.Pp
open Go.RowKit Go.Maps

theorem _root_.Go.Proofs.Ytbdkoagagcemcaa.Ints.take {w : World} {A : Option Addr} {c : Nat} {xs : List Int} (h : Ints w A c xs) (k : Nat) : Ints w A c (xs.take k) := by
  refine ⟨Nat.le_trans (by rw [List.length_take]; omega) h.1, fun hp => ?_⟩
  obtain ⟨g, o, e, hg, hc⟩ := h.2 (by rw [List.length_take] at hp; omega)
  refine ⟨g, o, e, hg, fun j x hx => hc j x ?_⟩
  have hjk : j < k := by
    obtain ⟨h1, _⟩ := List.getElem?_eq_some_iff.1 hx
    rw [List.length_take] at h1; omega
  rwa [List.getElem?_take_of_lt hjk] at hx
/-- The numbers that come twice, by their number. -/
def Po.f2 (l : List Int) (k : Int) : Int := if ((l.count k : Nat) : Int) < 2 then 0 else ((l.count k : Nat) : Int)
theorem is_of {l S : List Int} (h1 : ∀ x, x ∈ S ↔ Po.f2 l x ≠ 0) (h2 : S.Pairwise (befF (Po.f2 l))) : Po.Is l S := by
  have hf : ∀ x, x ∈ S → 2 ≤ l.count x ∧ Po.f2 l x = ((l.count x : Nat) : Int) := fun x hx => by
    have := (h1 x).1 hx
    unfold Po.f2 at this ⊢
    split
    · rename_i h; rw [if_pos h] at this; exact absurd rfl this
    · omega
  refine ⟨h2.imp_of_mem (fun {a b} ha hb h => ?_), fun v => ⟨fun hv => (hf v hv).1, fun hv => (h1 v).2 ?_⟩⟩
  · unfold befF at h
    rw [(hf a ha).2, (hf b hb).2] at h
    unfold Po.bef
    omega
  · unfold Po.f2
    rw [if_neg (by omega)]; omega
theorem size_struck {w : World} {b n : Nat} {D : DataW Unit} (hO : OMap w b n D) : Maps.size (Lib.deleteFuncD under2 D) ≤ Maps.size D := by
  obtain ⟨es, rfl, _, _⟩ := hO.entries lawI
  exact List.length_filter_le _ _

set_option maxHeartbeats 8000000 in
set_option maxRecDepth 100000 in
theorem fav_any (A : Option Addr) (c : Nat) (l : List Int) (most : Int) (w : World) (hx : Ints w A c l) (hI : ∀ x ∈ l, I64 x) (_hm : I64 most) (hn : l.length ≤ 100000) :
    Calls Try.prog 51 #[.slice A l.length c, .int .i64 most] w (FavRes l most w) := by
  have hmm := @run_makeMap Try.prog
  have HX := Lib.hid hx
  have HI := Lib.hid hI
  clear hx hI
  go_enter Try.func51, Try.ntmps51
  go_wp2_with fail
  go_loopw [12] (fun u wr => ∃ (i : Nat) (D : DataW Unit), i ≤ l.length ∧ u = .int .i64 i ∧ OMap wr w.heap.size i D ∧ MapIs D (fun k => ((l.take i).count k : Nat)) ∧ Maps.size D ≤ i ∧ wr.cell? ⟨w.heap.size + 1, 0, none⟩ = some (.map (some w.heap.size)) ∧ w.heap.size + 1 < wr.heap.size ∧ Below w.heap.size w wr) (fun u _ => l.length - (Go.RowKit.intOf u).toNat)
  case atStart => exact ⟨0, .map [], Nat.zero_le _, rfl, (World.ownsMap_made _ _ _ _).alloc _, MapIs.empty.same (fun x => rfl), Nat.le_refl _, by simp, by simp, ((Below.refl _ _).alloc (Nat.le_refl _) _).alloc (by simp) _⟩
  case round =>
    obtain ⟨i, D, hil, rfl, hown, hmap, hsz, hbox, hbl, hB⟩ := hrel
    have HB := Lib.hid hB
    have HO := Lib.hid hown
    have HM := Lib.hid hmap
    by_cases h1 : i < l.length
    · obtain ⟨g, o, x, rfl, hg, hxi, hcell⟩ := (HX.out.grow hB).at_ h1
      have hIx := HI.out x (List.mem_of_getElem? hxi)
      have hlook := look_run hown hmap hIx
      have htk := Lib.hid (take_snocI l i x hxi)
      have HIx := Lib.hid hIx
      have hcl : (l.take i).count x ≤ 1000000 := Nat.le_trans List.count_le_length (by rw [List.length_take]; omega)
      have hnew := Lib.hid (show ∀ k, (if k = x then (((l.take i).count x : Nat) : Int) + 1 else (((l.take i).count k : Nat) : Int)) = (((l.take (i + 1)).count k : Nat) : Int) from fun k => by
        rw [htk.out, count_snoc]
        by_cases e : k = x
        · subst e; rw [if_pos rfl, if_pos rfl]; omega
        · rw [if_neg e, if_neg (fun h => e h.symm)]; rfl)
      have hsp := size_put (HO.out.tidy lawI) (k := .int .i64 x) (.lit (.int .i64 (((l.take i).count x : Nat) + 1 : Int)))
      have HSP := Lib.hid hsp
      have HBX := Lib.hid hbox
      clear hB hown hmap hxi hIx hsp
      go_wp2_with (first | (at_mapUpdate; refine wpList_mapUpdate_own _ rfl _ _ _ 92 rfl 3 3 lawI Try.underlying92 _ w.heap.size i _ rfl HO.out (by unfold maxLen; omega) _ _ _ rfl rfl (keyI HIx.out) (.lit (.int .i64 (((l.take i).count x : Nat) + 1 : Int))) [] (plainElem_int Try.underlying3 (WalkArith.wf_i64 (by omega))) ?_; intro w1 hown1 hgrow1) | go_in)
      have hO1 := Lib.hid hown1
      have hB1 := Lib.hid (HB.out.grown hgrow1 HB.out.size (fun j hj => by cases hj; exact Nat.le_refl _))
      have hbox1 := Lib.hid ((World.cell?_of_block (a := ⟨w.heap.size + 1, 0, none⟩) (hgrow1.block (w.heap.size + 1) hbl (by simp))).trans HBX.out)
      have hbl1 := Nat.lt_of_lt_of_le hbl hgrow1.size
      clear hown1 hgrow1 hlook
      go_wp2
      go_roundw
      case rel =>
        refine ⟨i + 1, _, by omega, by go_num, hO1.out, (HM.out.put HO.out.isMap x _ (by omega)).same hnew.out, ?_, hbox1.out, hbl1, hB1.out⟩
        rw [HSP.out]
        split <;> omega
      case measure => simp [Go.RowKit.intOf]; omega
    · have hfin : l.take i = l := List.take_of_length_le (by omega)
      obtain rfl : i = l.length := by omega
      rw [hfin] at hmap
      have HM1 := Lib.hid (hmap.struck hown)
      have hs2 := size_struck hown
      have HBX := Lib.hid hbox
      have hdl := AnyDf.maps_DeleteFunc Try.delA lawI RI under2 74 #[] w.heap.size l.length D wr (enters_of Try.func74 (by kernel_rfl) rfl) hown (fun W key val kl yd yp _ hk hv => del1_any W key val kl yd yp hk hv)
      change Calls _ 73 _ _ _ at hdl
      have HDL := Lib.hid hdl
      clear hmap hfin hown hB hdl
      go_wp2_with fail
      refine HDL.out.mono ?_
      rintro e w1 ⟨rfl, hO1, hg1⟩
      have hbox1 := (World.cell?_of_block (a := ⟨w.heap.size + 1, 0, none⟩) (hg1.block (w.heap.size + 1) hbl (by simp))).trans HBX.out
      have hbl1 := Nat.lt_of_lt_of_le hbl hg1.size
      have HB1 := Lib.hid (HB.out.grown hg1 HB.out.size (fun j hj => by cases hj; exact Nat.le_refl _))
      have HO1 := Lib.hid (show OMap w1 w.heap.size l.length (Lib.deleteFuncD under2 D) from hO1)
      have hky := callsIn_wide.1 (AnyZI.keys_in Try.keysA Fence.wide 4 trivial rfl (some w.heap.size) w1)
      change Calls _ 76 _ _ (fun e w' => e = .returned (.func (.func 97) #[] #[.pointer (some ⟨w1.heap.size, 0, none⟩)]) ∧ w' = w1.alloc (.cells #[.map (some w.heap.size)] 92)) at hky
      have HK := Lib.hid hky
      clear hO1 hg1 HDL hky
      go_wp2_with fail
      refine HK.out.mono ?_
      rintro e w2 ⟨rfl, rfl⟩
      have hb2 : Below w1.heap.size w1 (w1.alloc (.cells #[.map (some w.heap.size)] 92)) := (Below.refl _ _).alloc (Nat.le_refl _) _
      have HST := Lib.hid (sorted_any _ (Po.f2 l) w.heap.size l.length (w.heap.size + 1) w1.heap.size (w1.alloc (.cells #[.map (some w.heap.size)] 92)) (OMap.keep HO1.out hb2) HM1.out ((hb2.cell (p := ⟨w.heap.size + 1, 0, none⟩) hbl1).trans hbox1) (by simp; omega) (by simp) (by simp) (by omega))
      have HB2 := Lib.hid (Below.after' HB1.out hb2 (Nat.le_refl _))
      have hz2 : w.heap.size ≤ (w1.alloc (.cells #[.map (some w.heap.size)] 92)).heap.size := HB2.out.size
      clear hb2 HK
      generalize w1.alloc (.cells #[.map (some w.heap.size)] 92) = w2 at *
      go_wp2_with fail
      refine HST.out.mono ?_
      rintro e w3 ⟨v, S, rfl, hrow, hmem, hpw, hb3⟩
      have hIs := is_of hmem hpw
      have HFT := Lib.hid (Po.favs_take hIs most.toNat)
      have hSl : S.length ≤ 100000 := Nat.le_trans (length_le_sub S l (hpw.imp (fun {a b} h e => by subst e; unfold befF at h; omega)) (fun v hv => List.count_pos_iff.1 (by have := (hIs.2 v).1 hv; omega))) hn
      obtain ⟨A2, c2, rfl, hrd⟩ := hrow.reads
      have HR := Lib.hid hrd
      have HB3 := Lib.hid (Below.after' HB2.out hb3 (Nat.le_refl _))
      have hcap := hrd.1
      clear hrow hrd hb3 HST hIs hmem hpw
      go_wp2_with fail
      go_ret
      refine ⟨A2, c2, ?_, by rw [HFT.out]; exact HR.out.take _, HB3.out⟩
      have elen : (max (min most (S.length : Int)) 0).toNat = (Po.favs l most.toNat).length := by rw [HFT.out, List.length_take]; omega
      rw [← elen]
      rfl
end Go.Proofs.Ytbdkoagagcemcaa.Pp
/- The walk of layer 26: a row by its favorites. -/
namespace Go.Proofs.Ytbdkoagagcemcaa
open Go.RowKit Pp

/-- Rows in their shortest codings, one behind the other. -/
def joinS : List (List Int) → Option (List UInt8)
  | [] => some []
  | x :: xs => match short x with
    | none => none
    | some s => preB s (joinS xs)
theorem joinS_none {x : List Int} (xs : List (List Int)) (h : short x = none) : joinS (x :: xs) = none := by unfold joinS; rw [h]
theorem joinS_some {x : List Int} {s : List UInt8} (xs : List (List Int)) (h : short x = some s) : joinS (x :: xs) = preB s (joinS xs) := by conv => lhs; unfold joinS; rw [h]
theorem fav_none {l : List Int} {many : Nat} (h : Po.favs l many = []) : fav l many = none := if_pos h
theorem fav_join {l : List Int} {many : Nat} (h : Po.favs l many ≠ []) : fav l many = preB [255, UInt8.ofNat (Po.favs l many).length] (joinS [Po.favs l many, Po.tokens (Po.favs l many) l, Po.left (Po.favs l many) l]) := by
  unfold fav
  rw [if_neg h]
  cases h1 : short (Po.favs l many) with
  | none => rw [joinS_none _ h1]; rfl
  | some a =>
    rw [joinS_some _ h1]
    dsimp only
    cases h2 : short (Po.tokens (Po.favs l many) l) with
    | none => rw [joinS_none _ h2]; rfl
    | some b =>
      rw [joinS_some _ h2]
      dsimp only
      cases h3 : short (Po.left (Po.favs l many) l) with
      | none => rw [joinS_none _ h3]; rfl
      | some c =>
        rw [joinS_some _ h3]
        simp [joinS, preB]
theorem freshB2 {x : World} {B base : Nat} {y z : Int} (h : x.heap[B]? = some (.cells #[.int .u8 y, .int .u8 z] 5 (0, 0))) (hb : base ≤ B) (a b : UInt8) (ha : y = (a.toNat : Int)) (hb2 : z = (b.toNat : Int)) : BRow x base 5 (.slice (some ⟨B, 0, none⟩) 2 2) [a, b] := by
  subst ha hb2
  exact ⟨rfl, .inr ⟨B, 2, _, rfl, hb, h, Nat.le_refl _, by unfold maxLen; omega, rfl, rfl⟩⟩
theorem tokens_i64 (fs l : List Int) (h : fs.length ≤ 1000000) : ∀ v ∈ Po.tokens fs l, I64 v := fun v hv => by
  unfold Po.tokens at hv
  obtain ⟨x, _, rfl⟩ := List.mem_map.1 hv
  have := Po.at_le fs x
  unfold I64
  omega
theorem short_len {l : List Int} {s : List UInt8} (h : short l = some s) : s.length ≤ 5 * l.length + 1 ∧ 0 < s.length := by
  have hs := shortTo_is l 15
  rw [show shortTo l 15 = some s from h] at hs
  obtain ⟨⟨i, c, b, _, h2, h3, rfl⟩, _⟩ := hs
  have := row_lenB c (cods_ok c (List.mem_of_getElem? h2)) l 0 b h3
  simp only [List.length_cons]
  omega
theorem hop_grown {W0 w w1 : World} {B : Nat} {v v' : Value} (h : W0.grownBy w (some B)) (hp : Hop w w1 v.ownBlock v'.ownBlock) (ho : v.ownBlock = some B ∨ ∀ g, v.ownBlock = some g → W0.heap.size ≤ g) :
    W0.grownBy w1 (some B) ∧ (v'.ownBlock = some B ∨ ∀ g, v'.ownBlock = some g → W0.heap.size ≤ g) := by
  refine ⟨grownBy_trans h hp.1 ho, ?_⟩
  rcases hp.2 with e | ⟨g, hg, e⟩
  · rw [e]; exact ho
  · refine .inr fun k hk => ?_
    rw [e] at hk
    cases hk
    exact Nat.le_trans h.size hg
set_option maxHeartbeats 8000000 in
set_option maxRecDepth 100000 in
theorem favored_any (A : Option Addr) (cc : Nat) (l : List Int) (w : World) (hx : Ints w A cc l) (hI : ∀ v ∈ l, I64 v) (hl : l.length ≤ 100000) (many : Nat) (hm : many ≤ 15) :
    Calls Try.prog 29 #[.slice A l.length cc, .int .i64 many] w fun ex y => ∃ v, ex = .returned v ∧ BestIs y w.heap.size v (fav l many) ∧ Below w.heap.size w y := by
  have HX := Lib.hid hx
  have HI := Lib.hid hI
  have HF := Lib.hid (fav_any A cc l (many : Int) w hx hI (by unfold I64; omega) hl)
  unfold FavRes at HF
  rw [Int.toNat_natCast] at HF
  have hfl := favs_bound l many hm
  have hfm := (Po.favs_facts l many).2
  have hfn := Lib.hid (fun h => fav_none (l := l) (many := many) h)
  have hfj := Lib.hid (fun h => fav_join (l := l) (many := many) h)
  have HFI := Lib.hid (show ∀ v ∈ Po.favs l many, I64 v from fun v hv => hI v (by
    have := hfm v hv
    exact List.count_pos_iff.1 (by omega)))
  clear hx hI hfm
  generalize Po.favs l many = fs at *
  generalize fav l many = fo at *
  go_enter Try.func29, Try.ntmps29
  go_wp2_with fail
  refine HF.out.mono ?_
  rintro ex y ⟨A1, c1, rfl, hi1, hb1⟩
  have HI1 := Lib.hid hi1
  have HB1 := Lib.hid hb1
  clear hb1 HF
  by_cases h0 : fs = []
  · have q : ((fs.length : Int) == 0) = true := by rw [h0]; rfl
    have hfin := Lib.hid (hfn.out h0)
    clear h0 hi1
    go_wp2_with fail
    go_ret
    exact ⟨_, rfl, by rw [hfin.out]; rfl, HB1.out⟩
  · have hpos : 1 ≤ fs.length := List.length_pos_iff.2 h0
    have q : ((fs.length : Int) == 0) = false := by simp; omega
    have hfin := Lib.hid (hfj.out h0)
    clear h0 hi1
    go_wp2_with fail
    have HG1 := Lib.hid (show ∀ g o, A1 = some ⟨g, o, none⟩ → some g ≠ some y.heap.size from fun g o e e2 => by
      obtain ⟨g', o', e', hg, _⟩ := HI1.out.2 (by omega)
      rw [e] at e'
      injection e' with e'
      injection e' with e'
      injection e2 with e2
      omega)
    have k1 := (Below.refl y.heap.size y).alloc (Nat.le_refl _) (.cells #[.int .u8 255, .int .u8 (fs.length : Int)] 5)
    have HSp := Lib.hid (split_any A A1 cc c1 l fs _ (HX.out.grow (Below.after' HB1.out k1 (Nat.le_refl _))) (HI1.out.grow k1) HI.out HFI.out hl (by omega))
    have HBf := Lib.hid (freshB2 (base := w.heap.size) (heap_alloc_new y (.cells #[.int .u8 255, .int .u8 (fs.length : Int)] 5)) HB1.out.size 255 (UInt8.ofNat fs.length) rfl (by rw [ofNat_lt (by omega)]))
    have HI1b := Lib.hid (HI1.out.grow k1)
    have HB1b := Lib.hid (Below.after' HB1.out k1 (Nat.le_refl _))
    clear k1 HI1 HB1
    refine HSp.out.mono ?_
    rintro ex z ⟨v1, v2, rfl, hr1, hr2, hb2⟩
    obtain ⟨A2, c2, rfl, hi2, hg2⟩ := hr1.readsB
    obtain ⟨A3, c3, rfl, hi3, hg3⟩ := hr2.readsB
    have HG2 := Lib.hid (show ∀ g o, A2 = some ⟨g, o, none⟩ → some g ≠ some y.heap.size from fun g o e e2 => by
      have := hg2 g o e
      injection e2 with e2
      simp at this
      omega)
    have HG3 := Lib.hid (show ∀ g o, A3 = some ⟨g, o, none⟩ → some g ≠ some y.heap.size from fun g o e e2 => by
      have := hg3 g o e
      injection e2 with e2
      simp at this
      omega)
    have HZ := Lib.hid (show y.heap.size < z.heap.size from Nat.lt_of_lt_of_le (by simp) hb2.size)
    have htl : (Po.tokens fs l).length = l.length := by unfold Po.tokens; rw [List.length_map]
    have hll : (Po.left fs l).length ≤ l.length := List.length_filter_le _ _
    have HT := Lib.hid (tokens_i64 fs l (by omega))
    have HLf := Lib.hid (show ∀ v ∈ Po.left fs l, I64 v from fun v hv => HI.out v ((List.mem_filter.1 hv).1))
    have HI1c := Lib.hid (HI1b.out.grow hb2)
    have HI2 := Lib.hid hi2
    have HI3 := Lib.hid hi3
    have HB2 := Lib.hid (Below.after' HB1b.out hb2 (Nat.le_refl _))
    have HBg := Lib.hid (HBf.out.grow hb2)
    have HTL := Lib.hid htl
    clear hr1 hr2 hb2 hi2 hi3 hg2 hg3 HSp HI1b HB1b HBf htl
    generalize Po.tokens fs l = ts at *
    generalize Po.left fs l = rs at *
    go_wp2_with fail
    have k2 := (Below.refl z.heap.size z).alloc (Nat.le_refl _) (.cells #[.slice A1 fs.length c1, .slice A2 ts.length c2, .slice A3 rs.length c3] 22)
    have hblk := heap_alloc_new z (.cells #[.slice A1 fs.length c1, .slice A2 ts.length c2, .slice A3 rs.length c3] 22)
    have HK2 := Lib.hid k2
    have HBK := Lib.hid hblk
    clear k2 hblk
    generalize hW0 : z.alloc (.cells #[.slice A1 fs.length c1, .slice A2 ts.length c2, .slice A3 rs.length c3] 22) = W0 at *
    have hws := Lib.hid (show z.heap.size < W0.heap.size by rw [← hW0]; simp)
    clear hW0
    have HJ1 := Lib.hid (HI1c.out.grow HK2.out)
    have HJ2 := Lib.hid (HI2.out.grow HK2.out)
    have HJ3 := Lib.hid (HI3.out.grow HK2.out)
    go_loopw [6, 34] (fun v t wr => ∃ (i : Nat) (acc : List UInt8), i ≤ 3 ∧ t = .int .i64 i ∧ BRow wr w.heap.size 5 v acc ∧ 0 < acc.length ∧ acc.length ≤ 600000 * i + 2 ∧ preB acc (joinS ([fs, ts, rs].drop i)) = fo ∧ Below w.heap.size w wr ∧ W0.grownBy wr (some y.heap.size) ∧ (v.ownBlock = some y.heap.size ∨ ∀ g, v.ownBlock = some g → W0.heap.size ≤ g)) (fun _ t _ => 3 - (intOf t).toNat)
    case atStart => exact ⟨0, _, by omega, rfl, HBg.out.grow HK2.out, by simp, by simp, by rw [hfin.out]; rfl, Below.after' HB2.out HK2.out (Nat.le_refl _), World.grownBy.refl _ _, .inl rfl⟩
    case round =>
      obtain ⟨i, acc, hi, rfl, hrow, hac, hal, hfo, hB, hgr, hown⟩ := hrel
      obtain ⟨Aa, ca, rfl, _⟩ := hrow.at_
      have HR := Lib.hid hrow
      have HFO := Lib.hid hfo
      have HW := Lib.hid hB
      have HGR := Lib.hid hgr
      have HOW := Lib.hid hown
      clear hfo hown
      by_cases h1 : i < 3
      · -- the row of number i
        have hrow9 : ∃ (P : List Int) (Ap : Option Addr) (cp : Nat), ([fs, ts, rs])[i]? = some P ∧ wr.cell? ⟨z.heap.size, i, none⟩ = some (.slice Ap P.length cp) ∧ Ints wr Ap cp P ∧ (∀ v ∈ P, I64 v) ∧ P.length ≤ 100000 := by
          have hb9 := (blk_facts ((hgr.block z.heap.size hws.out (by intro e; injection e with e; have := HZ.out; omega)).trans HBK.out)).1
          obtain rfl | rfl | rfl : i = 0 ∨ i = 1 ∨ i = 2 := by omega
          · exact ⟨fs, A1, c1, rfl, hb9 0, HJ1.out.kept hgr HG1.out, HFI.out, by omega⟩
          · exact ⟨ts, A2, c2, rfl, hb9 1, HJ2.out.kept hgr HG2.out, HT.out, by have := HTL.out; omega⟩
          · exact ⟨rs, A3, c3, rfl, hb9 2, HJ3.out.kept hgr HG3.out, HLf.out, by omega⟩
        obtain ⟨P, Ap, cp, hPi, hcell, hPI, hP64, hPl⟩ := hrow9
        have hz9 : z.heap.size < wr.heap.size := Nat.lt_of_lt_of_le hws.out hgr.size
        have hdr := Lib.hid (drop_atI hPi)
        have HSh := Lib.hid (shortest_any Ap cp P wr hPI hP64 (by omega))
        have hw9 := hB.size
        have p1 : decide ((i : Int) < 3) = true := decide_eq_true (by omega)
        clear hPi hPI hP64 hrow hB hgr
        go_wp2_with fail
        refine HSh.out.mono ?_
        intro ex w5 hres
        cases hs : short P with
        | none =>
          rw [hs] at hres
          obtain ⟨rfl, hb5⟩ := hres
          have hf := HFO.out
          rw [hdr.out, joinS_none _ hs] at hf
          have hfin9 := Lib.hid (show fo = none from hf.symm)
          have HB5 := Lib.hid (Below.after' HW.out hb5 (Nat.le_refl _))
          clear hf hb5 hs
          go_wp2_with fail
          go_ret
          exact ⟨_, rfl, by rw [hfin9.out]; rfl, HB5.out⟩
        | some sx =>
          rw [hs] at hres
          obtain ⟨u, rfl, hr5, hb5⟩ := hres
          obtain ⟨A5, c5, rfl, hba⟩ := hr5.at_
          have hsl := short_len hs
          have hf := HFO.out
          rw [hdr.out, joinS_some _ hs, preB_pre] at hf
          have HF9 := Lib.hid hf
          have HBA := Lib.hid hba
          have HR5 := Lib.hid (HR.out.grow hb5)
          have HW5 := Lib.hid (Below.after' HW.out hb5 (Nat.le_refl _))
          have HG5 := Lib.hid (grownBy_trans HGR.out (grownBy_below hb5 none) (.inr fun g e => by cases e))
          clear hf hb5 hs hba hr5 HSh
          go_wp2_with (at_builtin; refine wpList_appBy rfl _ _ _ rfl w.heap.size _ acc sx rfl HR5.out _ rfl HBA.out.src (by omega) HW5.out.size ?_; intro v6 w6 hr6 hp6; have HR6 := Lib.hid hr6; have HW6 := Lib.hid (HW5.out.trans (hop_base HR5.out hp6 (Nat.le_refl _) HW5.out.size)); have HG6 := Lib.hid (hop_grown HG5.out hp6 HOW.out); clear hr6 hp6)
          go_roundw
          case rel => exact ⟨i + 1, acc ++ sx, by omega, by go_num, HR6.out, by simp; omega, by simp only [List.length_append]; omega, HF9.out, HW6.out, HG6.out.1, HG6.out.2⟩
          case measure => simp [intOf]; omega
      · have hii : i = 3 := by omega
        subst hii
        have p1 : decide ((3 : Int) < 3) = false := by decide
        have hf := HFO.out
        have hfin9 := Lib.hid (show fo = some acc from by rw [← hf]; show preB acc (some []) = _; simp [preB])
        clear hf hrow hB hgr
        go_wp2_with fail
        go_ret
        exact ⟨_, rfl, by rw [hfin9.out]; exact bestIs_of HR.out hac, HW.out⟩
end Go.Proofs.Ytbdkoagagcemcaa

/- The walk of layer 26: a band's bytes. -/
namespace Go.Proofs.Ytbdkoagagcemcaa
open Go.RowKit Pp

theorem bandW_none {l : List Int} (h : short l = none) : bandW l = none := by unfold bandW; rw [h]; rfl
theorem bandW_few {l : List Int} {s : List UInt8} (h : short l = some s) (hl : l.length < 8) : bandW l = some s := by unfold bandW; rw [h]; simp only [Option.map_some]; rw [if_pos hl]
theorem bandW_more {l : List Int} {s : List UInt8} (h : short l = some s) (hl : ¬ l.length < 8) : bandW l = some (([1, 3, 15] : List Nat).foldl (fun b m => better b (fav l m)) s) := by unfold bandW; rw [h]; simp only [Option.map_some]; rw [if_neg hl]; simp only [List.foldl_cons, List.foldl_nil]
set_option maxHeartbeats 8000000 in
set_option maxRecDepth 100000 in
theorem bwrite_any (A : Option Addr) (cc : Nat) (l : List Int) (w : World) (hx : Ints w A cc l) (hI : ∀ v ∈ l, I64 v) (hl : l.length ≤ 100000) :
    Calls Try.prog 9 #[.slice A l.length cc] w (RowRes (bandW l) w) := by
  have HX := Lib.hid hx
  have HI := Lib.hid hI
  have HSh := Lib.hid (shortest_any A cc l w hx hI (by omega))
  have HFv := Lib.hid (fun m (hm : m ≤ 15) w hx => favored_any A cc l w hx hI hl m hm)
  have hno := Lib.hid (fun h => bandW_none (l := l) h)
  have hfew := Lib.hid (fun s h => bandW_few (l := l) (s := s) h)
  have hmore := Lib.hid (fun s h => bandW_more (l := l) (s := s) h)
  have qn : ∀ (w : World) (a : Option Addr) (n c : Nat), (binOp .neq 23 (.slice a n c) (.slice none 0 0)).run Try.prog w = .ok (.bool !a.isNone) w := fun w a n c => by
    simp only [binOp]
    simp [Op.equal, Op.maxDepth, Lib.run_equalIn_slice_nil w 9999 23 5 a n c 0 0 Try.underlying23]
  clear hx hI
  have p0 : decide ((16777216 : Int) < (l.length : Int)) = false := decide_eq_false (by omega)
  have p00 : decide (16777216 < l.length) = false := decide_eq_false (by omega)
  go_enter Try.func9, Try.ntmps9
  go_wp2_with fail
  refine HSh.out.mono ?_
  intro ex w1 hres
  cases hs : short l with
  | none =>
    rw [hs] at hres
    obtain ⟨rfl, hb1⟩ := hres
    have hfin := Lib.hid (hno.out hs)
    have HB1 := Lib.hid hb1
    clear hb1 hs
    go_wp2_with fail
    go_ret2
    exact rowRes_none hfin.out rfl HB1.out
  | some s =>
    rw [hs] at hres
    obtain ⟨u, rfl, hr1, hb1⟩ := hres
    obtain ⟨A1, c1, rfl, hba⟩ := hr1.at_
    have HR1 := Lib.hid hr1
    have HB1 := Lib.hid hb1
    have hsl := short_len hs
    by_cases h8 : l.length < 8
    · have p1 : decide ((l.length : Int) < 8) = true := decide_eq_true (by omega)
      have p2 : decide (l.length < 8) = true := decide_eq_true h8
      have hfin := Lib.hid (hfew.out s hs h8)
      clear hb1 hr1 hba hs
      go_wp2_with fail
      go_ret2
      exact rowRes_some hfin.out rfl HR1.out HB1.out
    · have p1 : decide ((l.length : Int) < 8) = false := decide_eq_false (by omega)
      have p2 : decide (l.length < 8) = false := decide_eq_false h8
      have hfin := Lib.hid (hmore.out s hs h8)
      clear hb1 hr1 hba hs
      go_wp2_with fail
      have k2 := (Below.refl w1.heap.size w1).alloc (Nat.le_refl _) (.cells #[.int .i64 1, .int .i64 3, .int .i64 15] 3)
      have hblk := heap_alloc_new w1 (.cells #[.int .i64 1, .int .i64 3, .int .i64 15] 3)
      have HK2 := Lib.hid k2
      have HBK := Lib.hid hblk
      clear k2 hblk
      generalize hW0 : w1.alloc (.cells #[.int .i64 1, .int .i64 3, .int .i64 15] 3) = W0 at *
      have hws := Lib.hid (show w1.heap.size < W0.heap.size by rw [← hW0]; simp)
      have HW0 := Lib.hid (Below.after' HB1.out HK2.out (Nat.le_refl _))
      clear hW0
      go_loopw [4, 28] (fun v t wr => ∃ (i : Nat) (acc : List UInt8), i ≤ 3 ∧ t = .int .i64 i ∧ BRow wr w.heap.size 5 v acc ∧ some ((([1, 3, 15] : List Nat).drop i).foldl (fun b m => better b (fav l m)) acc) = bandW l ∧ Below W0.heap.size W0 wr) (fun _ t _ => 3 - (intOf t).toNat)
      case atStart => exact ⟨0, s, by omega, rfl, HR1.out.grow HK2.out, hfin.out.symm, Below.refl _ _⟩
      case round =>
        obtain ⟨i, acc, hi, rfl, hrow, hfo, hB⟩ := hrel
        obtain ⟨Aa, ca, rfl, _⟩ := hrow.at_
        have HR := Lib.hid hrow
        have HFO := Lib.hid hfo
        have HW := Lib.hid hB
        have HWW := Lib.hid (Below.after' HW0.out hB (Nat.le_refl _))
        clear hfo
        by_cases h1 : i < 3
        · have hnum : ∃ m : Nat, m ≤ 15 ∧ ([1, 3, 15] : List Nat)[i]? = some m ∧ wr.cell? ⟨w1.heap.size, i, none⟩ = some (.int .i64 (m : Int)) := by
            have hb9 := (blk_facts ((hB.block w1.heap.size hws.out).trans HBK.out)).1
            obtain rfl | rfl | rfl : i = 0 ∨ i = 1 ∨ i = 2 := by omega
            · exact ⟨1, by omega, rfl, hb9 0⟩
            · exact ⟨3, by omega, rfl, hb9 1⟩
            · exact ⟨15, by omega, rfl, hb9 2⟩
          obtain ⟨m, hm, hmi, hcell⟩ := hnum
          have hz9 : w1.heap.size < wr.heap.size := Nat.lt_of_lt_of_le hws.out hB.size
          have hdr := Lib.hid (drop_atI hmi)
          have HF := Lib.hid (HFv.out m hm wr (HX.out.grow HWW.out))
          have p3 : decide ((i : Int) < 3) = true := decide_eq_true (by omega)
          clear hmi hrow hB HFv
          go_wp2_with fail
          refine HF.out.mono ?_
          rintro ex w5 ⟨v, rfl, hbi, hb5⟩
          have hf := HFO.out
          rw [hdr.out, List.foldl_cons] at hf
          have HR5 := Lib.hid (HR.out.grow hb5)
          have HW5 := Lib.hid (Below.after' HW.out hb5 (Nat.le_refl _))
          have hsz := HWW.out.size
          clear HF
          cases hv : fav l m with
          | none =>
            rw [hv] at hbi hf
            obtain rfl := hbi
            have hf2 := Lib.hid (show some ((([1, 3, 15] : List Nat).drop (i + 1)).foldl (fun b m => better b (fav l m)) acc) = bandW l from hf)
            clear hb5 hf hv
            go_wp2_with fail
            go_roundw
            case rel => exact ⟨i + 1, acc, by omega, by go_num, HR5.out, hf2.out, HW5.out⟩
            case measure => simp [intOf]; omega
          | some q =>
            rw [hv] at hbi hf
            obtain ⟨g, c9, rfl, hrq⟩ := hbi
            by_cases hlt : q.length < acc.length
            · have p4 : decide ((q.length : Int) < (acc.length : Int)) = true := decide_eq_true (by omega)
              have p5 : decide (q.length < acc.length) = true := decide_eq_true hlt
              have hbt : better acc (some q) = q := if_pos hlt
              rw [hbt] at hf
              have hf2 := Lib.hid hf
              have HQ := Lib.hid (brow_base hrq hsz)
              clear hb5 hf hv hrq hbt
              go_wp2_with fail
              go_roundw
              case rel => exact ⟨i + 1, q, by omega, by go_num, HQ.out, hf2.out, HW5.out⟩
              case measure => simp [intOf]; omega
            · have p4 : decide ((q.length : Int) < (acc.length : Int)) = false := decide_eq_false (by omega)
              have p5 : decide (q.length < acc.length) = false := decide_eq_false hlt
              have hbt : better acc (some q) = acc := if_neg hlt
              rw [hbt] at hf
              have hf2 := Lib.hid hf
              clear hb5 hf hv hrq hbt
              go_wp2_with fail
              go_roundw
              case rel => exact ⟨i + 1, acc, by omega, by go_num, HR5.out, hf2.out, HW5.out⟩
              case measure => simp [intOf]; omega
        · have hii : i = 3 := by omega
          subst hii
          have p3 : decide ((3 : Int) < 3) = false := by decide
          have hfin9 := Lib.hid (show bandW l = some acc from HFO.out.symm)
          clear hrow hB
          go_wp2_with fail
          go_ret2
          exact rowRes_some hfin9.out rfl HR.out HWW.out
end Go.Proofs.Ytbdkoagagcemcaa

/- The walks of layer 26's statements: what they are asked of. -/
namespace Go.Proofs.Ytbdkoagagcemcaa
open Go.RowKit Pp

set_option maxHeartbeats 4000000 in
set_option maxRecDepth 100000 in
theorem bsame_any (A B : Option Addr) (c d : Nat) (xs ys : List Int) (w : World) (hx : Ints w A c xs) (hy : Ints w B d ys) (hn : xs.length ≤ 1000000) (_hm : ys.length ≤ 1000000) :
    Calls Try.prog 12 #[.slice A xs.length c, .slice B ys.length d] w fun e w' => e = .returned (.bool (decide (xs = ys))) ∧ Below w.heap.size w w' := by
  by_cases hlen : xs.length = ys.length
  rotate_left
  · have hfin := Lib.hid (show decide (xs = ys) = false from decide_eq_false (fun e => hlen (by rw [e])))
    have q : ((xs.length : Int) != ys.length) = true := by rw [bne_iff_ne]; omega
    clear hx hy
    go_enter Try.func12, Try.ntmps12
    go_wp2
    go_ret
    exact ⟨ret_bool hfin.out.symm, Below.refl _ _⟩
  have q : ((xs.length : Int) != ys.length) = false := by rw [hlen]; simp
  have HX := Lib.hid hx
  have HY := Lib.hid hy
  have HL := Lib.hid hlen
  have hle : ys.length ≤ xs.length := by omega
  clear hx hy hlen
  go_enter Try.func12, Try.ntmps12
  go_wp2_with fail
  go_loopw [13] (fun u wr => ∃ i : Nat, i ≤ xs.length ∧ u = .int .i64 i ∧ Below w.heap.size w wr ∧ xs.take i = ys.take i) (fun u _ => xs.length - (intOf u).toNat)
  case atStart => exact ⟨0, Nat.zero_le _, rfl, Below.refl _ _, rfl⟩
  case round =>
    obtain ⟨i, hil, rfl, hB, ht⟩ := hrel
    have HB := Lib.hid hB
    have HT := Lib.hid ht
    by_cases h1 : i < xs.length
    · obtain ⟨g, o, x, rfl, hg, hxi, hcx⟩ := (HX.out.grow hB).at_ h1
      obtain ⟨g2, o2, y, rfl, hg2, hyi, hcy⟩ := (HY.out.grow hB).at_ (i := i) (by rw [← HL.out]; exact h1)
      have hiy : i < ys.length := by rw [← HL.out]; exact h1
      have HXI := Lib.hid hxi
      have HYI := Lib.hid hyi
      clear hB ht hxi hyi
      by_cases hxy : x = y
      · have q2 : (x != y) = false := by simp [hxy]
        have hs := Lib.hid (show xs.take (i + 1) = ys.take (i + 1) by rw [take_snocI xs i x HXI.out, take_snocI ys i y HYI.out, HT.out, hxy])
        clear hxy
        go_wp2_with fail
        refine wp_region_grow (by kernel_rfl) (by kernel_rfl) ?_
        repeat (go_big_quiet_step (fail))
        refine wpQuiet_nil ?_
        intro g1
        obtain ⟨w1, hb1⟩ := g1
        have HB2 := Lib.hid (Below.after' HB.out hb1 (Nat.le_refl _))
        dsimp only
        clear hb1
        go_wp2
        go_roundw
        case rel => exact ⟨i + 1, by omega, by go_num, HB2.out, hs.out⟩
        case measure => simp [intOf]; omega
      · have q2 : (x != y) = true := by simp [hxy]
        have hfin := Lib.hid (show decide (xs = ys) = false from decide_eq_false (fun e => by
          have h2 := HXI.out
          rw [e, HYI.out] at h2
          exact hxy (Option.some.inj h2).symm))
        clear hxy
        go_wp2_with fail
        refine wp_region_grow (by kernel_rfl) (by kernel_rfl) ?_
        repeat (go_big_quiet_step (fail))
        refine wpQuiet_nil ?_
        intro g1
        obtain ⟨w1, hb1⟩ := g1
        have HB2 := Lib.hid (Below.after' HB.out hb1 (Nat.le_refl _))
        dsimp only
        clear hb1
        go_wp2
        go_ret
        exact ⟨ret_bool hfin.out.symm, HB2.out⟩
    · have hfin := Lib.hid (show decide (xs = ys) = true from decide_eq_true (by
        rw [List.take_of_length_le (by omega), List.take_of_length_le (by rw [← HL.out]; omega)] at ht; exact ht))
      clear ht hB
      go_wp2
      go_ret
      exact ⟨ret_bool hfin.out.symm, HB.out⟩
theorem all_snoc (p : Int → Bool) (l : List Int) (i : Nat) (x : Int) (h : l[i]? = some x) : (l.take (i + 1)).all p = ((l.take i).all p && p x) := by
  rw [take_snocI l i x h, List.all_append]
  simp
theorem boundI_one (v : Int) : boundI 1 v = (decide (-2147483648 ≤ v) && decide (v < 2147483648)) := by unfold boundI; rw [if_neg (by decide), Bool.decide_and]
theorem boundI_nil (v : Int) : boundI 0 v = (decide (0 ≤ v) && decide (v < 4294967296)) := by unfold boundI; rw [if_pos rfl, Bool.decide_and]
set_option maxHeartbeats 4000000 in
set_option maxRecDepth 100000 in
theorem bounds_any (A : Option Addr) (c : Nat) (xs : List Int) (w : World) (hx : Ints w A c xs) (hn : xs.length ≤ 1000000) :
    Calls Try.prog 10 #[.slice A xs.length c] w fun e w' => e = .returned (.bool (boundsI xs)) ∧ w = w' := by
  have HX := Lib.hid hx
  have hfin := Lib.hid (show boundsI xs = (xs.all (boundI 0) || xs.all (boundI 1)) from rfl)
  clear hx
  go_enter Try.func10, Try.ntmps10
  go_wp2_with fail
  go_loop [3, 4, 9] (fun a b u => ∃ i : Nat, i ≤ xs.length ∧ u = .int .i64 i ∧ a = .bool ((xs.take i).all (boundI 1)) ∧ b = .bool ((xs.take i).all (boundI 0))) (fun _ _ u => xs.length - (intOf u).toNat)
  case atStart => exact ⟨0, Nat.zero_le _, rfl, rfl, rfl⟩
  case round =>
    obtain ⟨i, hi, rfl, rfl, rfl⟩ := hrel
    by_cases h1 : i < xs.length
    · obtain ⟨g, o, v, rfl, hg, hvi, hct⟩ := HX.out.at_ h1
      have ha := Lib.hid ((all_snoc (boundI 1) xs i v hvi).trans (by rw [boundI_one]))
      have hb := Lib.hid ((all_snoc (boundI 0) xs i v hvi).trans (by rw [boundI_nil]))
      clear hvi
      generalize (xs.take i).all (boundI 1) = A1 at *
      generalize (xs.take i).all (boundI 0) = B1 at *
      cases A1 <;> cases B1 <;> cases c1 : decide (-2147483648 ≤ v) <;> cases c2 : decide (0 ≤ v)
      all_goals
        go_wp2_with fail
        go_round
        case rel => exact ⟨i + 1, by omega, by go_num, by rw [ha.out]; simp [c1], by rw [hb.out]; simp [c2]⟩
        case measure => simp [intOf]; omega
    · have hii : i = xs.length := by omega
      subst hii
      have e1 := Lib.hid (show xs.take xs.length = xs from List.take_length)
      generalize hA : (xs.take xs.length).all (boundI 1) = A1 at *
      generalize hB : (xs.take xs.length).all (boundI 0) = B1 at *
      have hr := Lib.hid (show boundsI xs = (B1 || A1) by rw [hfin.out, ← hA, ← hB, e1.out])
      clear hA hB
      cases A1
      all_goals
        go_wp2_with fail
        go_ret
        exact ⟨ret_bool (by rw [hr.out]; simp), rfl⟩
end Go.Proofs.Ytbdkoagagcemcaa

/- The walk of layer 26's statements: the calls whose answers are fixed. -/
namespace Go.Proofs.Ytbdkoagagcemcaa
open Go.RowKit Pp

theorem brow_at2 {w : World} {base : Nat} {v : Value} {l : List UInt8} (h : BRow w base 5 v l) : ∃ A c, v = .slice A l.length c ∧ BAt w A c l ∧ (A = none → c = 0) := by
  obtain ⟨A, c, rfl, hb⟩ := h.at_
  refine ⟨A, c, rfl, hb, fun e => ?_⟩
  rcases h.2 with ⟨h2, _⟩ | ⟨g, cap, cur, h2, _⟩
  · injection h2 with q1 q2 q3
  · injection h2 with q1 q2 q3
    rw [e] at q1
    cases q1
theorem ints_blk (w : World) (xs : List Int) (t : TypeId) : Ints (w.alloc (.cells (ic xs).toArray t)) (some ⟨w.heap.size, 0, none⟩) xs.length xs :=
  ⟨Nat.le_refl _, fun _ => ⟨w.heap.size, 0, rfl, by simp, fun j x hx => by
    rw [Nat.zero_add, (blk_facts (heap_alloc_new w (.cells (ic xs).toArray t))).1 j]
    simp only [List.getElem?_toArray]
    exact ic_get hx⟩⟩
theorem bandW_of {l : List Int} (h : boundsI l = true) : ∃ b, bandW l = some b := by
  have := bandW_some l
  rw [h] at this
  exact Option.isSome_iff_exists.1 this
theorem bandW_no {l : List Int} (h : boundsI l = false) : bandW l = none := by
  have := bandW_some l
  rw [h] at this
  cases hb : bandW l with
  | none => rfl
  | some b => rw [hb] at this; cases this
theorem bandW_nil : bandW [] = some [0] := by
  have h : short [] = some [0] := by decide
  exact bandW_few h (by decide)
set_option maxHeartbeats 8000000 in
set_option maxRecDepth 100000 in
theorem bfixed_any (w : World) : Calls Try.prog 8 #[] w fun e w' => e = .returned (.bool true) ∧ Below w.heap.size w w' := by
  go_enter Try.func8, Try.ntmps8
  go_wp2_with fail
  refine (bwrite_any none 0 [] w (Ints.nil _ _ _) (fun v hv => by cases hv) (by decide)).mono ?_
  intro ex w1 hres
  rw [bandW_nil] at hres
  obtain ⟨u1, rfl, hr1, hb1⟩ := hres
  obtain ⟨A1, c1, rfl, _⟩ := hr1.at_
  have HB1 := Lib.hid hb1
  clear hr1 hb1
  simp only [List.length_cons, List.length_nil, Nat.zero_add]
  go_wp2_with fail
  obtain ⟨b3, hb3⟩ := bandW_of (l := [3, 1, 4]) (by decide)
  have hbl := bandW_len hb3
  have k1 := (Below.refl w1.heap.size w1).alloc (Nat.le_refl _) (.cells (ic [3, 1, 4]).toArray 3)
  have HW3 := bwrite_any (some ⟨w1.heap.size, 0, none⟩) 3 [3, 1, 4] _ (ints_blk w1 [3, 1, 4] 3) (by unfold I64; decide) (by decide)
  rw [hb3] at HW3
  have HK1 := Lib.hid (Below.after' HB1.out k1 (Nat.le_refl _))
  have hrd := Lib.hid (bandN_back hb3 (by decide) [])
  clear k1 hb3
  refine HW3.mono ?_
  rintro ex w2 ⟨u2, rfl, hr2, hb2⟩
  obtain ⟨A2, c2, rfl, hba2, hA2⟩ := brow_at2 hr2
  have HN := Lib.hid (cnew_any A2 c2 b3 w2 hba2 (by simp at hbl; omega) hA2)
  have HB2 := Lib.hid (Below.after' HK1.out hb2 (Nat.le_refl _))
  clear hr2 hb2 hba2 hA2 HW3 HB1 HK1
  go_wp2_with fail
  refine HN.out.mono ?_
  rintro ex w3 ⟨b, A3, c3, rfl, hc3, hbn, hb3⟩
  have HB2s := Lib.hid HB2.out.size
  have HRd := Lib.hid (bread_any hc3 3 (by unfold I64; decide) (by simp at hbl; omega))
  have HB3 := Lib.hid (Below.after' HB2.out hb3 (Nat.le_refl _))
  have hbb := hc3.lt
  clear hc3 hb3 HN HB2
  go_wp2_with fail
  refine HRd.out.mono ?_
  rintro ex w4 ⟨u4, vs, m, e4, rfl, hi4, hc4, ho4, _, hg4⟩
  have hwb : w.heap.size ≤ b := Nat.le_trans HB2s.out hbn
  have ho := ho4 rfl
  rw [List.drop_zero, show bandN 3 b3 = bandN (([3, 1, 4] : List Int).length : Int) (b3 ++ []) from by rw [List.append_nil]; rfl, hrd.out] at ho
  obtain ⟨rfl, rfl, hm⟩ := ho
  dsimp only at hm hi4
  have hml : m = b3.length := by
    have h1 := congrArg List.length hm
    have h2 := hc4.le
    rw [List.length_drop, List.length_nil] at h1
    omega
  have HEn := Lib.hid (fun w5 (h : Below w4.heap.size w4 w5) => cend_ok (hc4.grow h) hml)
  have HB4 := Lib.hid (HB3.out.grown hg4 HB3.out.size (fun k hk => by cases hk; exact hwb))
  obtain ⟨A4, c4, rfl, hI4, _⟩ := hi4
  have HI4 := Lib.hid hI4
  clear hc4 ho4 hg4 hI4 hm HRd hrd
  simp only [List.length_cons, List.length_nil, Nat.zero_add, Nat.reduceAdd]
  go_wp2_with fail
  have k1 := (Below.refl w4.heap.size w4).alloc (Nat.le_refl _) (.cells (ic [-1, 2147483648]).toArray 3)
  have HW5 := bwrite_any (some ⟨w4.heap.size, 0, none⟩) 2 [-1, 2147483648] _ (ints_blk w4 [-1, 2147483648] 3) (by unfold I64; decide) (by decide)
  rw [bandW_no (l := [-1, 2147483648]) (by decide)] at HW5
  have HK4 := Lib.hid k1
  clear k1
  refine HW5.mono ?_
  rintro ex w5 ⟨rfl, hb5⟩
  have hk5 := HK4.out.trans (hb5.mono HK4.out.size)
  have hI5 := HI4.out.grow hk5
  obtain ⟨g4, o4, q4, hg4, hc4⟩ := hI5.2 (by simp)
  have d4 := hc4 2 4 rfl
  subst q4
  have HE5 := Lib.hid (HEn.out w5 hk5)
  have HB5 := Lib.hid (Below.after' HB4.out hk5 (Nat.le_refl _))
  clear hb5 hk5 hI5 hc4 HW5 HK4 HEn HI4 HB4
  go_wp2_with fail
  refine HE5.out.mono ?_
  rintro ex w6 ⟨rfl, hb6⟩
  have HB6 := Lib.hid (Below.after' HB5.out hb6 (Nat.le_refl _))
  clear hb6
  go_wp2_with fail
  refine (codings_any w6).mono ?_
  rintro ex w7 ⟨rfl, _, hb7⟩
  have HB7 := Lib.hid (Below.after' HB6.out hb7 (Nat.le_refl _))
  clear hb7
  go_wp2_with fail
  go_ret
  exact ⟨rfl, HB7.out⟩
end Go.Proofs.Ytbdkoagagcemcaa

/- Layer 2's reference cursor: a box with bytes that it reads, its place, and its error; a number of one byte. -/
namespace Go.Proofs.Ytbdkoagagcemcaa
open Go.RowKit

/-- A cursor at place n of bytes l. -/
structure RCur (x : World) (b : Nat) (A : Option Addr) (c : Nat) (l : List UInt8) (n : Nat) (e : Int) : Prop where
  box : x.heap[b]? = some (.cells #[.slice A l.length c, .int .i64 n, .int .i64 e] 44 (0, 0))
  row : BAt x A c l
  le : n ≤ l.length
  small : l.length ≤ 1000000
section
variable {x y z : World} {b : Nat} {A : Option Addr} {c : Nat} {l : List UInt8} {n : Nat} {e : Int}
theorem RCur.lt (h : RCur x b A c l n e) : b < x.heap.size := (Array.getElem?_eq_some_iff.1 h.box).1
theorem RCur.grow (h : RCur x b A c l n e) (k : Below x.heap.size x y) : RCur y b A c l n e := ⟨(k.block b h.lt).trans h.box, h.row.grow k, h.le, h.small⟩
/-- A block that came behind turns. -/
theorem RCur.hop {m : Nat} {e0 : Int} (h0 : RCur x b A c l m e0) (h : RCur y b A c l n e) {o : Option Nat} (k : y.grownBy z o) (ho : ∀ g, o = some g → x.heap.size ≤ g) : RCur z b A c l n e :=
  ⟨(k.block b h.lt (fun e => by have := ho b e.symm; have := h0.lt; omega)).trans h.box, h.row.kept k (fun g o' e hp e2 => by
    obtain ⟨g', o'', e', hg, _⟩ := h0.row.2 hp
    rw [e'] at e
    cases e
    have := ho g e2.symm
    omega), h.le, h.small⟩
/-- The bytes' block is not the box. -/
theorem RCur.apart (h : RCur x b A c l n e) {g o : Nat} (hA : A = some ⟨g, o, none⟩) (hp : 0 < l.length) : g ≠ b := by
  intro eg
  subst eg
  obtain ⟨g', o', e', hg, hc⟩ := h.row.2 hp
  rw [hA] at e'
  cases e'
  have h1 := hc 0 _ (List.getElem?_eq_getElem hp)
  rw [(blk_facts h.box).1] at h1
  have hi : o + 0 < 3 := by
    have := (Array.getElem?_eq_some_iff.1 h1).1
    simpa using this
  obtain h2 | h2 | h2 : o + 0 = 0 ∨ o + 0 = 1 ∨ o + 0 = 2 := by omega
  all_goals
    rw [h2] at h1
    simp at h1
theorem RCur.cb (h : RCur x b A c l n e) : x.cell? ⟨b, 0, none⟩ = some (.slice A l.length c) := (blk_facts h.box).1 0
theorem RCur.ca (h : RCur x b A c l n e) : x.cell? ⟨b, 1, none⟩ = some (.int .i64 n) := (blk_facts h.box).1 1
theorem RCur.ce (h : RCur x b A c l n e) : x.cell? ⟨b, 2, none⟩ = some (.int .i64 e) := (blk_facts h.box).1 2
theorem RCur.frozen (h : RCur x b A c l n e) (t : Nat) : x.frozen? ⟨b, t, none⟩ = false := (blk_facts h.box).2 t
theorem RCur.turned (h : RCur x b A c l n e) (t : Nat) (v : Value) : x.grownBy (x.setCell ⟨b, t, none⟩ v) (some b) := by
  rw [setCell_eq_setRow x b t _ 44 (0, 0) v h.box]
  exact ⟨rfl, rfl, rfl, by simp, fun k _ hne => setRow_other x b k _ (fun hh => hne (by rw [hh]))⟩
theorem RCur.setErr (h : RCur x b A c l n e) (e' : Int) : RCur (x.setCell ⟨b, 2, none⟩ (.int .i64 e')) b A c l n e' :=
  ⟨by simp [World.setCell, Array.getElem?_modify, h.box], h.row.kept (h.turned 2 _) (fun g o hA hp e => h.apart hA hp (Option.some.inj e)), h.le, h.small⟩
theorem RCur.setAt (h : RCur x b A c l n e) {m : Nat} (hm : m ≤ l.length) : RCur (x.setCell ⟨b, 1, none⟩ (.int .i64 m)) b A c l m e :=
  ⟨by simp [World.setCell, Array.getElem?_modify, h.box], h.row.kept (h.turned 1 _) (fun g o hA hp e => h.apart hA hp (Option.some.inj e)), hm, h.small⟩
/-- The bytes from a place on. -/
theorem RCur.part (h : RCur x b A c l n e) {k : Nat} (hk : n + k ≤ l.length) (hp : 0 < k) : ∃ g o, A = some ⟨g, o, none⟩ ∧ g < x.heap.size ∧ BAt x (some ⟨g, o + n, none⟩) (c - n) ((l.drop n).take k) := by
  obtain ⟨g, o, e, hg, hc⟩ := h.row.2 (by omega)
  have := h.row.1
  refine ⟨g, o, e, hg, ?_, fun _ => ⟨g, o + n, rfl, hg, fun j u hu => ?_⟩⟩
  · rw [List.length_take, List.length_drop]; omega
  · rw [List.getElem?_take] at hu
    split at hu
    · rw [List.getElem?_drop] at hu
      have := hc _ u hu
      rw [← Nat.add_assoc] at this
      exact this
    · cases hu
theorem step_appBy {w : World} {ops : Array Oper} {o : Oper} {a : Act} {K : Act → World → Prop} {Q : Exit → Act → World → Prop} {E : Prop} (hgd : o.guard = none) (s x : Operand) (tx : TypeId)
    (ho : o.op = .call { callee := .builtin .append, args := #[s, x], argTypes := #[23, tx] })
    (base : Nat) (v : Value) (l m : List UInt8) (hv : a.eval s = v) (hown : BRow w base 5 v l)
    (X : Value) (hX : a.eval x = X) (hs : Src Try.prog 1 tx X m.length (cb m) w) (hn : l.length + m.length ≤ 100000000000) (hbase : base ≤ w.heap.size)
    (h : ∀ v' w', BRow w' base 5 v' (l ++ m) → Hop w w' v.ownBlock v'.ownBlock → K (a.put o.dst v') w') : if Region.wanted o (yielded ops a.tmps) = true then Oper.wp Try.prog o a w K Q else E := by
  obtain ⟨i0, hi, hz0, hz1, hz2⟩ := info_parts infoByte
  exact step_append_row hgd s x 23 tx ho base 5 i0 _ 1 1 Try.underlying23 hi hz0 hz1 hz2 rfl v _ _ hv hown X m.length (cb m) hX (fun v' w' h1 h2 => h v' w' (BRow.app h1 rfl) h2) hs (by unfold maxLen; omega) (by omega) hbase
theorem rsize_one (w : World) : Calls Try.prog 61 #[.int .i64 1] w fun e w' => e = .returned (.bool true) ∧ w' = w := by
  go_enter Try.func61, Try.ntmps61
  go_wp2
  go_ret
  exact ⟨rfl, rfl⟩
set_option maxRecDepth 100000 in
theorem rtake_bad (h : RCur x b A c l n e) (h0 : e ≠ 0) : Calls Try.prog 63 #[.pointer (some ⟨b, 0, none⟩), .int .i64 1] x fun ex y => ex = .returned (.slice none 0 0) ∧ y = x := by
  have p0 : (e != 0) = true := by simpa using h0
  have c2 := h.ce
  have hz := h.lt
  clear h h0
  go_enter Try.func63, Try.ntmps63
  go_wp2_with fail
  go_ret
  exact ⟨rfl, rfl⟩
set_option maxRecDepth 100000 in
theorem rtake_end (h : RCur x b A c l n 0) (hn : n = l.length) : Calls Try.prog 63 #[.pointer (some ⟨b, 0, none⟩), .int .i64 1] x fun ex y => ex = .returned (.slice none 0 0) ∧ RCur y b A c l n 6 ∧ x.grownBy y (some b) := by
  have H := Lib.hid h
  have c0 := h.cb
  have c1 := h.ca
  have c2 := h.ce
  have hf := h.frozen 2
  have hz := h.lt
  have hs := h.small
  have hr := h.row.1
  subst hn
  clear h
  go_enter Try.func63, Try.ntmps63
  go_wp2_with fail
  go_region
  go_wp2_with fail
  go_ret
  exact ⟨rfl, (H.out.grow (Below.refl _ _).drew).setErr 6, grownBy_trans (grownBy_below (Below.refl _ _).drew (some b)) ((H.out.grow (Below.refl _ _).drew).turned 2 _) (.inl rfl)⟩
set_option maxHeartbeats 4000000 in
set_option maxRecDepth 100000 in
theorem rtake_ok (h : RCur x b A c l n 0) {u : UInt8} (hu : l[n]? = some u) : Calls Try.prog 63 #[.pointer (some ⟨b, 0, none⟩), .int .i64 1] x fun ex y => (∃ v, ex = .returned v ∧ BRow y x.heap.size 5 v [u]) ∧ RCur y b A c l (n + 1) 0 ∧ x.grownBy y (some b) := by
  have hl : n < l.length := (List.getElem?_eq_some_iff.1 hu).1
  have H := Lib.hid h
  obtain ⟨g, o, rfl, hg, hcs⟩ := h.row.2 (by omega)
  have HCS := Lib.hid (hcs n u hu)
  have c0 := h.cb
  have c1 := h.ca
  have c2 := h.ce
  have hf := h.frozen 1
  have hz := h.lt
  have hs := h.small
  have hr := h.row.1
  have hle := h.le
  have p1 : decide ((l.length : Int) - (n : Int) < 1) = false := decide_eq_false (by omega)
  clear h hcs
  go_enter Try.func63, Try.ntmps63
  go_wp2_with fail
  go_region
  go_wp2_with fail
  have e1 := Lib.hid (show ((n + 1 : Nat) : Int) = (n : Int) + 1 from rfl)
  have h1 := H.out.setAt (m := n + 1) (by omega)
  have hg1 := H.out.turned 1 (.int .i64 ((n : Int) + 1))
  have hcs1 := (World.cell?_of_block (a := ⟨g, o + n, none⟩) (hg1.block g hg (fun e => H.out.apart rfl (by omega) (Option.some.inj e)))).trans HCS.out
  rw [e1.out] at h1
  generalize hW : x.setCell ⟨b, 1, none⟩ (.int .i64 ((n : Int) + 1)) = W at *
  have H1 := Lib.hid h1
  have HG1 := Lib.hid hg1
  have d0 := h1.cb
  have d1 := h1.ca
  rw [e1.out] at d1
  have hz1 := h1.lt
  have hgW : g < W.heap.size := Nat.lt_of_lt_of_le hg hg1.size
  have hwx : x.heap.size ≤ W.heap.size := hg1.size
  have hsrc := Lib.hid (show ∀ y, Below W.heap.size W y → Src Try.prog 1 23 (.slice (some ⟨g, o + n, none⟩) [u].length (c - n)) [u].length (cb [u]) y from fun y k => BAt.src ⟨by simp; omega, fun _ => ⟨g, o + n, rfl, Nat.lt_of_lt_of_le hgW k.size, fun j t ht => by
    cases j with
    | zero =>
      simp at ht
      subst ht
      rw [Nat.add_zero]
      exact (k.cell (p := ⟨g, _, none⟩) hgW).trans hcs1
    | succ j => simp at ht⟩⟩)
  have q1 : ¬ (c - n = 0) := by omega
  have q2 : ¬ (c ≤ n) := by omega
  have hwn : IntKind.i64.wrap (n : Int) = (n : Int) := by rw [IntKind.wrap_i64]; omega
  have hb1 : (0 : Int) ≤ (n : Int) + 1 ∧ (n : Int) + 1 ≤ (c : Int) := by omega
  have hb2 : (0 : Int) ≤ (n : Int) ∧ (n : Int) ≤ (n : Int) + 1 := by omega
  have q3 : ¬ (c = n) := by omega
  clear h1 hg1 hcs1 hW c0 c1 c2 hf hz
  have FIN := Lib.hid (show ∀ (y : World) (B : Nat) (v3 : Value) (w3 : World), Below W.heap.size W y → W.heap.size ≤ B → BRow w3 x.heap.size 5 v3 ([] ++ [u]) → Hop y w3 (some B) v3.ownBlock → BRow w3 x.heap.size 5 v3 [u] ∧ RCur w3 b (some ⟨g, o, none⟩) c l (n + 1) 0 ∧ x.grownBy w3 (some b) from fun y B v3 w3 k hB hr hp =>
    ⟨hr, H.out.hop (H1.out.grow k) hp.1 (fun g e => by cases e; exact Nat.le_trans hwx hB), grownBy_trans (grownBy_trans HG1.out (grownBy_below k none) (.inr fun g e => by cases e)) hp.1 (.inr fun g e => by cases e; exact Nat.le_trans hwx hB)⟩)
  go_region_law ((refine step_appBy rfl _ _ _ rfl x.heap.size _ [] [u] rfl (freshB (heap_alloc_new _ _) ?_) _ rfl (hsrc.out _ ?_) (by simp) ?_ ?_; (focus (first | omega | (simp; done) | (simp; omega))); (focus (exact (((Below.refl _ _).alloc (Nat.le_refl _) _).drew).drew)); (focus (first | omega | (simp; done) | (simp; omega))); intro v3 w3 hr3 hp3; have F0 := Lib.hid (fun k hB => FIN.out _ _ v3 w3 k hB hr3 hp3); clear hr3 hp3))
  all_goals
    have F := Lib.hid (F0.out (((Below.refl _ _).alloc (Nat.le_refl _) _).drew).drew (by first | omega | (simp; done) | (simp; omega)))
    clear F0
    go_wp2_with fail
    go_ret
    exact ⟨⟨_, rfl, F.out.1⟩, F.out.2.1, F.out.2.2⟩
theorem rnumber_nil (x : World) : Calls Try.prog 62 #[.slice none 0 0] x fun ex y => ex = .returned (.int .u64 0) ∧ y = x := by
  go_enter Try.func62, Try.ntmps62
  go_wp2_with fail
  go_loop [3, 8] (fun s t => s = .int .u64 0 ∧ t = .int .i64 0) (fun _ _ => 0)
  case atStart => exact ⟨rfl, rfl⟩
  case round =>
    obtain ⟨rfl, rfl⟩ := hrel
    go_wp2_with fail
    go_ret
    exact ⟨rfl, rfl⟩
theorem rnumber_one (A : Option Addr) (c : Nat) (u : UInt8) (x : World) (hx : BAt x A c [u]) : Calls Try.prog 62 #[.slice A 1 c] x fun ex y => ex = .returned (.int .u64 (u.toNat : Int)) ∧ y = x := by
  obtain ⟨g, o, rfl, hg, hc⟩ := hx.2 (by simp)
  have c0 := hc 0 u rfl
  rw [Nat.add_zero] at c0
  have hb1 : (1 : Nat) ≤ c := hx.1
  have hu := u.toNat_lt
  clear hx hc
  go_enter Try.func62, Try.ntmps62
  go_wp2_with fail
  go_loop [3, 8] (fun s t => (s = .int .u64 0 ∧ t = .int .i64 0) ∨ (s = .int .u64 (u.toNat : Int) ∧ t = .int .i64 1)) (fun _ t => (1 - intOf t).toNat)
  case atStart => exact .inl ⟨rfl, rfl⟩
  case round =>
    rcases hrel with ⟨rfl, rfl⟩ | ⟨rfl, rfl⟩
    · go_wp2_with fail
      go_round
      case rel => exact .inr ⟨by go_num, rfl⟩
      case measure => decide
    · go_wp2_with fail
      go_ret
      exact ⟨rfl, rfl⟩
/-- A number of one byte: behind an error, at the end, and where there is one. -/
theorem rbig_bad (h : RCur x b A c l n e) (h0 : e ≠ 0) : Calls Try.prog 40 #[.pointer (some ⟨b, 0, none⟩), .int .i64 1] x fun ex y => ex = .returned (.int .u64 0) ∧ y = x := by
  have p0 : (e == 0) = false := by simpa using h0
  have HT := Lib.hid (rtake_bad h h0)
  have c2 := h.ce
  have hz := h.lt
  clear h h0
  go_enter Try.func40, Try.ntmps40
  go_wp2_with fail
  refine HT.out.mono ?_
  rintro ex y ⟨rfl, ey⟩
  have ey := ey.symm
  subst ey
  go_wp2_with fail
  refine (rnumber_nil x).mono ?_
  rintro ex y ⟨rfl, ey⟩
  have ey := ey.symm
  subst ey
  go_wp2_with fail
  go_ret
  exact ⟨rfl, rfl⟩
theorem rbig_end (h : RCur x b A c l n 0) (hn : n = l.length) : Calls Try.prog 40 #[.pointer (some ⟨b, 0, none⟩), .int .i64 1] x fun ex y => ex = .returned (.int .u64 0) ∧ RCur y b A c l n 6 ∧ x.grownBy y (some b) := by
  have HT := Lib.hid (rtake_end h hn)
  have c2 := h.ce
  have hz := h.lt
  clear h hn
  go_enter Try.func40, Try.ntmps40
  go_wp2_with fail
  refine (rsize_one x).mono ?_
  rintro ex y ⟨rfl, ey⟩
  have ey := ey.symm
  subst ey
  go_wp2_with fail
  refine HT.out.mono ?_
  rintro ex y ⟨rfl, hc, hg⟩
  have HC := Lib.hid hc
  have HG := Lib.hid hg
  clear hc hg
  go_wp2_with fail
  refine (rnumber_nil y).mono ?_
  rintro ex z ⟨rfl, ey⟩
  have ey := ey.symm
  subst ey
  go_wp2_with fail
  go_ret
  exact ⟨rfl, HC.out, HG.out⟩
theorem rbig_ok (h : RCur x b A c l n 0) {u : UInt8} (hu : l[n]? = some u) : Calls Try.prog 40 #[.pointer (some ⟨b, 0, none⟩), .int .i64 1] x fun ex y => ex = .returned (.int .u64 (u.toNat : Int)) ∧ RCur y b A c l (n + 1) 0 ∧ x.grownBy y (some b) := by
  have HT := Lib.hid (rtake_ok h hu)
  have c2 := h.ce
  have hz := h.lt
  clear h
  go_enter Try.func40, Try.ntmps40
  go_wp2_with fail
  refine (rsize_one x).mono ?_
  rintro ex y ⟨rfl, ey⟩
  have ey := ey.symm
  subst ey
  go_wp2_with fail
  refine HT.out.mono ?_
  rintro ex y ⟨⟨v, rfl, hr⟩, hc, hg⟩
  obtain ⟨A1, c1, rfl, hba⟩ := hr.at_
  have HN := Lib.hid (rnumber_one A1 c1 u y hba)
  have HC := Lib.hid hc
  have HG := Lib.hid hg
  clear hc hg hr hba
  simp only [List.length_cons, List.length_nil, Nat.zero_add]
  go_wp2_with fail
  refine HN.out.mono ?_
  rintro ex z ⟨rfl, ey⟩
  have ey := ey.symm
  subst ey
  go_wp2_with fail
  go_ret
  exact ⟨rfl, HC.out, HG.out⟩
end
end Go.Proofs.Ytbdkoagagcemcaa
