/- The walk of layer 25: the keys of a map, collected and sorted by a closure. -/
import Derived.Test.YteegpbdkalpeiaaWalksI
import Derived.Shelf.SlIterI.Collect
import Derived.Shelf.SlSortCmp.NoneTotal
namespace Go.Proofs.Yteegpbdkalpeiaa
open Go.RowKit Go.Maps

abbrev encX (x : Int) : Value := .int .i64 (nx x)
theorem sort_block {w : World} {blk off n : Nat} {d : Array Int} {os : Array Obj} {k : Nat} (h1 : k ≠ blk) (h2 : k < w.heap.size) : (sortWorld encX w blk off n d os).heap[k]? = w.heap[k]? := by
  unfold sortWorld
  rw [Sort.heap_grow_old _ _ (by simpa using h2)]
  simp [Sort.putRow, Sort.mapBlock, Sort.ahead, Array.getElem?_modify, Ne.symm h1]
theorem sort_grown (w : World) (blk off n : Nat) (d : Array Int) (os : Array Obj) : w.grownBy (sortWorld encX w blk off n d os) (some blk) :=
  ⟨rfl, rfl, rfl, by unfold sortWorld; simp, fun _ hk hne => sort_block (fun e => hne (by rw [e])) hk⟩

theorem cf_lt (f : Int → Int) (a b : Int) : Po.cf f a b < 0 ↔ f b < f a ∨ (f a = f b ∧ a < b) := by
  unfold Po.cf Lib.compareInt
  simp only [Po.orr]
  by_cases h1 : f b < f a
  · simp [h1]
  · by_cases h2 : f a < f b
    · simp [h1, h2]; omega
    · have e : f a = f b := by omega
      by_cases h3 : a < b
      · simp [e, h3]
      · by_cases h4 : b < a
        · simp [e, h3, h4]
        · simp [e, h3, h4]
def cfX (f : Int → Int) (x y : Int) : Int := Po.cf f (nx x) (nx y)
theorem ltX (f : Int → Int) (x y : Int) : ltOf (cfX f) x y = decide (f (nx y) < f (nx x) ∨ (f (nx x) = f (nx y) ∧ nx x < nx y)) := by
  unfold ltOf cfX
  exact decide_eq_decide.2 (cf_lt f _ _)
theorem swoX (f : Int → Int) : Sort.SWO (ltOf (cfX f)) where
  irrefl x := by rw [ltX]; simp
  trans x y z h1 h2 := by rw [ltX, decide_eq_true_eq] at *; omega
  ntrans x y z h1 h2 := by rw [ltX, decide_eq_false_iff_not] at *; omega

theorem cmpLays (D : DataW Unit) (f : Int → Int) (b n B blk off size : Nat) (w : World) (hO : OMap w b n D) (hM : MapIs D f) (hc : w.cell? ⟨B, 0, none⟩ = some (.map (some b))) (hB : B < w.heap.size) (h1 : B ≠ blk) (h2 : b ≠ blk) :
    CmpLays1 Try.prog 20 #[.pointer (some ⟨B, 0, none⟩)] encX (cfX f) blk off size w := fun m os dk _ x y => by
  refine (cmp2_any D f b n B _ (nx x) (nx y) (hO.kept (sort_grown w blk off m dk os) (by simp [h2])) hM ((World.cell?_of_block (sort_block h1 hB)).trans hc) (nx_in x) (nx_in y)).mono ?_
  rintro e w' ⟨rfl, o, rfl⟩
  exact ⟨rfl, 0, #[o], Sort.alloc_eq_grow _ _⟩

theorem ihold {w : World} {g : Nat} {cur : Array Value} {e : TypeId} {ss : List Int} (hb : w.heap[g]? = some (.cells cur e (0, 0))) (ht : cur.toList.take ss.length = ic ss) (hI : ∀ x ∈ ss, I64 x) : Sort.Holds encX w g 0 ss.toArray := by
  intro j hj
  have hj' : j < ss.length := by simpa using hj
  refine ⟨?_, by simp [World.frozen?, hb]⟩
  have h1 : (cur.toList.take ss.length)[j]? = (ic ss)[j]? := by rw [ht]
  rw [List.getElem?_take_of_lt hj'] at h1
  simp only [World.cell?, hb, Nat.zero_add]
  simp only [Option.isSome_none, Bool.false_eq_true, if_false]
  rw [← Array.getElem?_toList, h1]
  have h2 : nx ss[j] = ss[j] := nx_same (hI _ (List.getElem_mem hj'))
  simp [hj', ic, h2]
theorem isorted {w : World} {base g cap n : Nat} {os : Array Obj} {cur : Array Value} {ss : List Int} {d : Array Int} (hl : d.size = ss.length) (hI : ∀ x ∈ d.toList, I64 x) (hbase : base ≤ g) (hb : w.heap[g]? = some (.cells cur 3 (0, 0)))
    (h1 : ss.length ≤ cap) (h2 : cap ≤ maxLen) (h3 : cur.size = cap * 1) : IRow (sortWorld encX w g 0 n d os) base (.slice (some ⟨g, 0, none⟩) ss.length cap) d.toList := by
  have hg : g < w.heap.size := (Array.getElem?_eq_some_iff.1 hb).1
  have hblk : (sortWorld encX w g 0 n d os).heap[g]? = some (.cells (Sort.putCells encX 0 d cur) 3 (0, 0)) := by
    unfold sortWorld
    rw [Sort.heap_grow_old _ _ (by simpa using hg)]
    simp [Sort.putRow, Sort.mapBlock, Sort.ahead, Array.getElem?_modify, hb, Sort.onCells]
  have e : d.toList.length = ss.length := by simpa using hl
  unfold IRow
  rw [e]
  refine ⟨by simp [ic_length, hl], .inr ⟨g, cap, _, rfl, hbase, hblk, h1, h2, by simp [Sort.putCells, h3], ?_⟩⟩
  rw [Nat.mul_one]
  apply List.ext_getElem?
  intro j
  by_cases hj : j < ss.length
  · have hj2 : j < d.size := by omega
    have hx : nx d[j] = d[j] := nx_same (hI _ (by simp))
    rw [List.getElem?_take_of_lt hj, Array.getElem?_toList]
    simp [Sort.putCells, ic, hj2, show j < cur.size by omega, hx]
  · rw [List.getElem?_take_eq_none (by omega), List.getElem?_eq_none (by simp [ic_length]; omega)]

/-- The order of the favorites by a number f: more, or as many and less. -/
def befF (f : Int → Int) (a b : Int) : Prop := f b < f a ∨ (f a = f b ∧ a < b)
theorem sorted_pairwise (f : Int → Int) (d : Array Int) (hnd : d.toList.Nodup) (hI : ∀ x ∈ d.toList, I64 x) (hs : Sort.SortedIn (ltOf (cfX f)) 0 d.size d) : d.toList.Pairwise (befF f) := by
  rw [List.pairwise_iff_getElem]
  intro i j hi hj hij
  have hi' : i < d.size := by simpa using hi
  have hj' : j < d.size := by simpa using hj
  have h := hs i j (Nat.zero_le _) hij hj'
  have e1 : d[i]! = d.toList[i] := by simp [hi']
  have e2 : d[j]! = d.toList[j] := by simp [hj']
  rw [ltX, e1, e2, nx_same (hI _ (List.getElem_mem hi)), nx_same (hI _ (List.getElem_mem hj)), decide_eq_false_iff_not] at h
  have hne : d.toList[i] ≠ d.toList[j] := (List.pairwise_iff_getElem.1 hnd) i j hi hj hij
  unfold befF
  omega

set_option maxHeartbeats 4000000 in
theorem sorted_any (D : DataW Unit) (f : Int → Int) (b n B Bm : Nat) (w : World) (hO : OMap w b n D) (hM : MapIs D f) (hc : w.cell? ⟨B, 0, none⟩ = some (.map (some b))) (hB : B < w.heap.size) (hcm : w.cell? ⟨Bm, 0, none⟩ = some (.map (some b))) (hBm : Bm < w.heap.size) (hD : Maps.size D ≤ 1000000) :
    Calls Try.prog 18 #[.func (.func 26) #[] #[.pointer (some ⟨Bm, 0, none⟩)], .func (.func 20) #[] #[.pointer (some ⟨B, 0, none⟩)]] w fun e w' => ∃ v S, e = .returned v ∧ IRow w' w.heap.size v S ∧ (∀ x, x ∈ S ↔ f x ≠ 0) ∧ S.Pairwise (befF f) ∧ Below w.heap.size w w' := by
  obtain ⟨hnd, hmem, hI, hlen⟩ := hM.keys hO
  have hseq : SeqGives Fence.wide 2 Try.prog 26 #[.pointer (some ⟨Bm, 0, none⟩)] encZ (fun ss => ss.Perm (intKeys D)) (Maps.size D) w :=
    AnyZI.keys_gives (ρ := Try.keysA_ren) { Try.keysA with } Fence.wide _ trivial rfl (by omega) Bm b n D w hBm hcm hO
  have hcol := callsIn_wide.1 (AnyZI.collect_in Try.collectA Fence.wide 4 trivial trivial rfl (by omega) 26 #[.pointer (some ⟨Bm, 0, none⟩)] trivial (enters_of Try.func26 (by kernel_rfl) rfl) _ _ (by unfold maxLen; omega) (by omega) w hseq)
  change Calls _ 24 _ _ _ at hcol
  have HC := Lib.hid hcol
  have hbl := hO.lt
  have HO := Lib.hid hO
  have HCB := Lib.hid hc
  have HI := Lib.hid hI
  have HND := Lib.hid hnd
  have HMEM := Lib.hid hmem
  clear hcol hseq hO hc hcm hI hnd hmem
  go_enter Try.func18, Try.ntmps18
  go_wp2_with fail
  refine HC.out.mono ?_
  rintro e w1 ⟨v, ss, rfl, hS, hrow, hnil, hb⟩
  have hSI : ∀ x ∈ ss, I64 x := fun x hx => HI.out x (hS.mem_iff.1 hx)
  have hSM : ∀ x, x ∈ ss ↔ f x ≠ 0 := fun x => (hS.mem_iff).trans (HMEM.out x)
  have hSN : ss.Nodup := hS.nodup_iff.2 HND.out
  have hSL : ss.length ≤ 1000000 := by rw [hS.length_eq, hlen]; exact hD
  have HB := Lib.hid hb
  clear HC
  by_cases h0 : ss = []
  · subst h0
    have hv := hnil.2 rfl
    subst hv
    have HM0 := Lib.hid hSM
    clear hSI hSM hSN hrow hnil hb hS
    have hsn := AnyF.slices_SortFunc_none { Try.sortA with } none 0 (.func (.func 20) #[] #[.pointer (some ⟨B, 0, none⟩)]) w1
    change Calls _ 25 _ _ _ at hsn
    go_wp2_with fail
    refine hsn.mono ?_
    rintro e w' ⟨rfl, rfl⟩
    clear hsn
    go_wp2
    go_ret
    exact ⟨_, [], rfl, IRow.nil _ _, HM0.out, List.Pairwise.nil, HB.out⟩
  · rcases hrow.2 with ⟨_, hn⟩ | ⟨g, cap, cur, rfl, hbase, hb1, h1, h2, h3, h4⟩
    · exact absurd (List.eq_nil_of_length_eq_zero hn) h0
    · have hg : g < w1.heap.size := (Array.getElem?_eq_some_iff.1 hb1).1
      have hO1 := HO.out.keep hb
      have hc1 : w1.cell? ⟨B, 0, none⟩ = some (.map (some b)) := (hb.cell (p := ⟨B, 0, none⟩) hB).trans HCB.out
      have hB1 : B < w1.heap.size := Nat.lt_of_lt_of_le hB hb.size
      have hsrt := Any.slices_SortFunc Try.sortA encX (fun _ => rfl) (cfX f) (swoX f) 20 #[.pointer (some ⟨B, 0, none⟩)] g 0 cap ss.toArray w1 (enters_of Try.func20 (by kernel_rfl) rfl)
        (cmpLays D f b n B g 0 _ w1 hO1 hM hc1 hB1 (by omega) (by omega)) (ihold hb1 (by rw [Nat.mul_one] at h4; exact h4) hSI) hg (by simp; omega)
      have esz : ss.toArray.size = ss.length := by simp
      rw [esz] at hsrt
      change Calls _ 25 _ _ _ at hsrt
      have HS := Lib.hid hsrt
      have HSI := Lib.hid hSI
      have HSM := Lib.hid hSM
      have HSN := Lib.hid hSN
      have HB1 := Lib.hid hb1
      have H4 := Lib.hid h3
      clear hsrt hSI hSM hSN hb1 hS hrow hnil hb hO1 hc1 h0 h3 h4
      go_wp2_with fail
      refine HS.out.mono ?_
      rintro e w' ⟨rfl, d', m, os, hp, hs, rfl⟩
      have hd1 : d'.size = ss.length := by rw [hp.1]; simp
      have hperm : d'.toList.Perm ss := by
        have := hp.2.2
        have e1 : d'.extract 0 ss.length = d' := by rw [← hd1]; simp
        have e2 : ss.toArray.extract 0 ss.length = ss.toArray := by rw [← esz]; exact Array.extract_size
        rw [e1, e2] at this
        exact this
      have hI2 : ∀ x ∈ d'.toList, I64 x := fun x hx => HSI.out x (hperm.mem_iff.1 hx)
      rw [← hd1] at hs
      have hpw := Lib.hid (sorted_pairwise f d' (hperm.nodup_iff.2 HSN.out) hI2 hs)
      have hrow2 := Lib.hid (isorted (n := m) (os := os) hd1 hI2 hbase HB1.out h1 h2 H4.out)
      have hmm := Lib.hid (fun x => (hperm.mem_iff (a := x)).trans (HSM.out x))
      have HB2 := Lib.hid (HB.out.grown (sort_grown w1 g 0 m d' os) HB.out.size (fun j hj => by cases hj; exact hbase))
      clear hp hs hperm hI2 HS
      go_wp2
      go_ret
      exact ⟨_, _, rfl, hrow2.out, hmm.out, hpw.out, HB2.out⟩
end Go.Proofs.Yteegpbdkalpeiaa
