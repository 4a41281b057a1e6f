/- The walk of the library: a row of values sorted by pool.Compare. -/
import Derived.Test.YtekcfjfkbiciaaaCmp
import Derived.Test.YtekcfjfkbiciaaaVOff
import Derived.Test.YtekcfjfkbiciaaaROrder
import Derived.Test.YtekcfjfkbiciaaaShelf
import Derived.Shelf.SlSortCmp.NoneTotal
namespace Go.Proofs.Ytekcfjfkbiciaaa
open Go.RowKit Go.Sort

instance : Inhabited Pv := ⟨Pv.zero⟩
def encV (x : Pv) : List Value := vc [x]
theorem encV_len (x : Pv) : (encV x).length = 6 := rfl
theorem flat_vc (l : List Pv) : flatK encV 6 l.toArray = (vc l).toArray := by
  refine ext_get! (by simp [vc_length]) fun t ht => ?_
  have ht' : t < l.length * 6 := by simpa using ht
  rw [get_flatK _ _ _ _ (by simpa using ht')]
  have hi : t / 6 < l.length := by omega
  have hx : l[t / 6]? = some l[t / 6] := List.getElem?_eq_getElem hi
  have e1 : l.toArray[t / 6]! = l[t / 6] := by simp [hi]
  rw [e1]
  generalize l[t / 6] = x at hx
  obtain ⟨p0, p1, p2, p3, p4, p5⟩ := vc_get hx
  have fin : ∀ k, t % 6 = k → t = t / 6 * 6 + k := fun k hk => by omega
  have out : ∀ v, (vc l)[t]? = some v → (vc l).toArray[t]! = v := fun v hv => by simp [Array.getElem!_eq_getD, Array.getD_eq_getD_getElem?, hv]
  have hr : t % 6 = 0 ∨ t % 6 = 1 ∨ t % 6 = 2 ∨ t % 6 = 3 ∨ t % 6 = 4 ∨ t % 6 = 5 := by omega
  rcases hr with e | e | e | e | e | e
  · have e2 := fin _ e; rw [Nat.add_zero] at e2; rw [e, out _ (by rw [e2]; exact p0)]; rfl
  · have e2 := fin _ e; rw [e, out _ (by rw [e2]; exact p1)]; rfl
  · have e2 := fin _ e; rw [e, out _ (by rw [e2]; exact p2)]; rfl
  · have e2 := fin _ e; rw [e, out _ (by rw [e2]; exact p3)]; rfl
  · have e2 := fin _ e; rw [e, out _ (by rw [e2]; exact p4)]; rfl
  · have e2 := fin _ e; rw [e, out _ (by rw [e2]; exact p5)]; rfl
theorem swoV : SWO (ltOf cf) where
  irrefl x := by
    unfold ltOf
    exact decide_eq_false fun h => Pv.lin.irrefl x ((cf_lt x x).1 h)
  trans x y z h1 h2 := by
    unfold ltOf at *
    rw [decide_eq_true_eq, cf_lt] at *
    exact Pv.lin.trans _ _ _ h1 h2
  ntrans x y z h1 h2 := by
    unfold ltOf at *
    rw [decide_eq_false_iff_not, cf_lt] at *
    intro h
    rcases Pv.lin.tri x y with a | a | a
    · exact h1 a
    · subst a; exact h2 h
    · exact h2 (Pv.lin.trans _ _ _ a h)
theorem sortK_block {w : World} {blk off n : Nat} {d : Array Pv} {os : Array Obj} {k : Nat} (h1 : k ≠ blk) (h2 : k < w.heap.size) : (sortWorldK encV 6 w blk off n d os).heap[k]? = w.heap[k]? := by
  unfold sortWorldK
  rw [Sort.heap_grow_old _ _ (by simpa [putRowK, putRow, mapBlock, ahead] using h2)]
  simp [putRowK, Sort.putRow, Sort.mapBlock, Sort.ahead, Array.getElem?_modify, Ne.symm h1]
theorem sortK_grown (w : World) (blk off n : Nat) (d : Array Pv) (os : Array Obj) : w.grownBy (sortWorldK encV 6 w blk off n d os) (some blk) :=
  ⟨rfl, rfl, rfl, by unfold sortWorldK; simp [putRowK, putRow, mapBlock, ahead], fun _ hk hne => sortK_block (fun e => hne (by rw [e])) hk⟩
theorem cmpLays (blk off size : Nat) (w : World) : CmpLays Try.prog 18 #[] encV 6 cf blk off size w := fun _ _ _ _ x y => compare_grows x y _
theorem vhold {w : World} {base g n cap : Nat} {l : List Pv} (h : VRow w base (.slice (some ⟨g, 0, none⟩) n cap) l) : HoldsK encV 6 w g 0 l.toArray := by
  unfold HoldsK
  rw [flat_vc]
  rcases h.2 with ⟨h0, _⟩ | ⟨g', cap', cur, hv, h1, h2, h3, h4, h5, h6⟩
  · cases h0
  · cases hv
    intro j hj
    have hj' : j < (vc l).length := by simpa using hj
    refine ⟨?_, by simp [World.frozen?, h2]⟩
    have hc := World.ownsRow.cells h (g := g) rfl j _ (List.getElem?_eq_getElem hj')
    rw [addr_add] at hc
    rw [hc]
    simp [hj']
theorem vsorted {w : World} {base g cap n m : Nat} {os : Array Obj} {l l' : List Pv} (h : VRow w base (.slice (some ⟨g, 0, none⟩) m cap) l) (hl : l'.length = l.length) (hm : m = l.length) :
    VRow (sortWorldK encV 6 w g 0 n l'.toArray os) base (.slice (some ⟨g, 0, none⟩) m cap) l' := by
  rcases h.2 with ⟨h0, _⟩ | ⟨g', cap', cur, hv, h1, h2, h3, h4, h5, h6⟩
  · cases h0
  · cases hv
    have hg : g < w.heap.size := (Array.getElem?_eq_some_iff.1 h2).1
    have hblk : (sortWorldK encV 6 w g 0 n l'.toArray os).heap[g]? = some (.cells (Sort.putCells id 0 (vc l').toArray cur) 25 (0, 0)) := by
      unfold sortWorldK
      rw [Sort.heap_grow_old _ _ (by simpa [putRowK, putRow, mapBlock, ahead] using hg)]
      unfold putRowK
      rw [flat_vc]
      simp [Sort.putRow, Sort.mapBlock, Sort.ahead, Array.getElem?_modify, h2, Sort.onCells]
    unfold VRow
    rw [hl]
    refine ⟨by rw [vc_length, hl], .inr ⟨g, cap, _, by rw [← hm], h1, hblk, h3, h4, by simp [Sort.putCells, h5], ?_⟩⟩
    apply List.ext_getElem?
    intro j
    have hle : l.length * 6 ≤ cur.size := by rw [h5]; exact Nat.mul_le_mul_right _ h3
    by_cases hj : j < l.length * 6
    · have hj2 : j < (vc l').length := by rw [vc_length, hl]; exact hj
      rw [List.getElem?_take_of_lt hj, Array.getElem?_toList]
      simp [Sort.putCells, hj2, show j < cur.size by omega]
    · rw [List.getElem?_take_eq_none (by omega), List.getElem?_eq_none (by rw [vc_length, hl]; omega)]
set_option maxRecDepth 100000 in
theorem isAggV (w : World) : (isAgg (Try.sortA_ren.t 24)).run Try.prog w = .ok true w := Try.isAgg25 w
set_option maxRecDepth 100000 in
theorem sizeOfV (w : World) : (Go.sizeOf (Try.sortA_ren.t 24)).run Try.prog w = .ok 6 w := Try.sizeOf25 w
set_option maxRecDepth 100000 in
/-- Sorted: the same values, none behind a greater one. -/
theorem sort_any (base : Nat) (u : Value) (l : List Pv) (w : World) (hx : VRow w base u l) (hn : l.length ≤ 1000000) :
    Calls Try.prog 27 #[u, .func (.func 18) #[] #[]] w fun e w' => ∃ l', e = .returned (.tuple #[]) ∧ VRow w' base u l' ∧ l'.Perm l ∧ l'.Pairwise (fun a b => ¬ Pv.lt b a) ∧ w.grownBy w' u.ownBlock := by
  rcases id hx.2 with ⟨rfl, hn0⟩ | ⟨g, cap, cur, rfl, h1, h2, h3, h4, h5, h6⟩
  · obtain rfl : l = [] := List.eq_nil_of_length_eq_zero hn0
    have := AnyF.slices_SortFunc_none Try.sortA none 0 (.func (.func 18) #[] #[]) w
    refine (show Calls Try.prog 27 _ w _ from this).mono ?_
    rintro e w' ⟨rfl, rfl⟩
    exact ⟨[], rfl, hx, List.Perm.nil, List.Pairwise.nil, World.grownBy.refl _ _⟩
  · have hg : g < w.heap.size := (Array.getElem?_eq_some_iff.1 h2).1
    have hs := AnyQ.slices_SortFunc Try.sortA 6 isAggV sizeOfV encV encV_len (fun x => vc_one [x]) cf swoV 18 #[] g 0 cap l.toArray w (enters_of Try.func18 (by kernel_rfl) rfl) (cmpLays g 0 _ w) (vhold hx) hg (by simp; omega)
    have esz : l.toArray.size = l.length := by simp
    rw [esz] at hs
    refine (show Calls Try.prog 27 _ w _ from hs).mono ?_
    rintro e w' ⟨rfl, d', n, os, hp, hsr, rfl⟩
    have hd1 : d'.size = l.length := by rw [hp.1]; simp
    have hperm : d'.toList.Perm l := by
      have := hp.2.2
      have e1 : d'.extract 0 l.length = d' := by rw [← hd1]; simp
      have e2 : l.toArray.extract 0 l.length = l.toArray := by rw [← esz]; exact Array.extract_size
      rw [e1, e2] at this
      exact this
    refine ⟨d'.toList, rfl, ?_, hperm, ?_, sortK_grown w g 0 n d' os⟩
    · have := vsorted (n := n) (os := os) (l' := d'.toList) hx (by simpa using hd1) rfl
      simpa using this
    · rw [List.pairwise_iff_getElem]
      intro i j hi hj hij
      have hi' : i < d'.size := by simpa using hi
      have hj' : j < d'.size := by simpa using hj
      rw [← hd1] at hsr
      have h := hsr i j (Nat.zero_le _) hij hj'
      unfold ltOf at h
      rw [decide_eq_false_iff_not, cf_lt] at h
      have e1 : d'[i]! = d'.toList[i] := by simp [hi']
      have e2 : d'[j]! = d'.toList[j] := by simp [hj']
      rw [e1, e2] at h
      exact h
end Go.Proofs.Ytekcfjfkbiciaaa
