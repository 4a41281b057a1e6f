/- The walks of layer 32: clones, a list of words, the search, classes' names. -/
import Derived.Test.YtdgoffpfcgipkaaFile
import Derived.Test.YtdgoffpfcgipkaaShelf
import Derived.Sort.OwnSorted
import Derived.Lib.OwnBridge
namespace Go.Proofs.Ytdgoffpfcgipkaa
open Go.RowKit Go.Sort

/-- Texts that are read, as a source. -/
theorem Txt.src {w : World} {A : Option Addr} {c : Nat} {l : List (List UInt8)} (h : Txt w A c l) : Src Try.prog 1 25 (.slice A l.length c) l.length (sc l) w := by
  by_cases h0 : l.length = 0
  · obtain rfl := List.eq_nil_of_length_eq_zero h0
    cases A with
    | none => exact Src.ofNil w Try.underlying25 c
    | some a => exact Src.ofSlice w Try.underlying25 a 0 c [] rfl (fun j u hu => by simp at hu) (fun u hu => by cases hu)
  · obtain ⟨g, o, rfl, hg, hc⟩ := h.2 (by omega)
    refine Src.ofSlice w Try.underlying25 ⟨g, o, none⟩ _ c (sc l) (by simp [sc]) (fun j u hu => ?_) (fun u hu => ?_)
    · rw [addr_add]
      simp only [sc, List.getElem?_map, Option.map_eq_some_iff] at hu
      obtain ⟨x, h1, rfl⟩ := hu
      exact hc j x h1
    · simp only [sc, List.mem_map] at hu
      obtain ⟨x, _, rfl⟩ := hu
      rfl
theorem own_zero (w : World) (base : Nat) (e : TypeId) (h : base ≤ w.heap.size) : (w.alloc (.cells #[] e)).ownsRow base e 1 (.slice (some ⟨w.heap.size, 0, none⟩) 0 0) 0 [] :=
  World.ownsRow_lit (base := base) (e := e) (size := 1) w #[] 0 h (by unfold maxLen; omega) rfl

set_option maxHeartbeats 2000000 in
set_option maxRecDepth 100000 in
theorem cloneS_any (A : Option Addr) (c : Nat) (xs : List (List UInt8)) (w : World) (hx : Txt w A c xs) (hn : xs.length ≤ 1000000000000) :
    Calls Try.prog 17 #[.slice A xs.length c] w fun e w' => ∃ v, e = .returned v ∧ TRow w' w.heap.size v xs ∧ Below w.heap.size w w' := by
  obtain ⟨i0, hi, hz0, hz1, hz2⟩ := info_parts infoStr
  have qn : ∀ (w : World) (a : Option Addr) (n c : Nat), (binOp .eql 25 (.slice a n c) (.slice none 0 0)).run Try.prog w = .ok (.bool a.isNone) w := fun w a n c => Lib.run_eql_slice_nil w _ _ a n c 0 0 Try.underlying25
  have HX := Lib.hid hx
  cases A with
  | none =>
    obtain rfl : xs = [] := by
      cases xs with
      | nil => rfl
      | cons x l =>
        obtain ⟨g, o, e, _⟩ := hx.2 (by simp)
        cases e
    clear hx
    go_enter Try.func17, Try.ntmps17
    go_wp2
    go_ret
    exact ⟨_, rfl, TRow.nil _ _, Below.refl _ _⟩
  | some a =>
    clear hx
    have k0 := (Below.refl w.heap.size w).alloc (Nat.le_refl _) (.cells #[] 9)
    have HS := Lib.hid ((HX.out.grow k0).src)
    have K0 := Lib.hid k0
    have HO := Lib.hid (own_zero w w.heap.size 9 (Nat.le_refl _))
    clear k0
    go_enter Try.func17, Try.ntmps17
    go_wp2_with (at_builtin; refine wpList_append_row rfl _ _ 25 25 rfl w.heap.size 9 i0 (.string ⟨#[]⟩) 1 16 Try.underlying25 hi hz0 hz1 hz2 rfl (.slice (some ⟨w.heap.size, 0, none⟩) 0 0) _ _ rfl HO.out _ xs.length (sc xs) rfl ?_ HS.out (by unfold maxLen; omega) (by omega) (by simp))
    intro v' w' h1 h2
    have hR : TRow w' w.heap.size v' xs := h1
    have HR := Lib.hid hR
    have HB := Lib.hid (K0.out.trans (h2.below (B := w.heap.size) (by simp) (fun k e => by simp [Value.ownBlock] at e; omega)))
    clear h1 h2 hR
    go_wp2
    go_ret
    exact ⟨_, rfl, HR.out, HB.out⟩

set_option maxHeartbeats 2000000 in
set_option maxRecDepth 100000 in
theorem cloneB_any (A : Option Addr) (c : Nat) (xs : List UInt8) (w : World) (hx : BAt w A c xs) (hn : xs.length ≤ 1000000000000) :
    Calls Try.prog 14 #[.slice A xs.length c] w fun e w' => ∃ v, e = .returned v ∧ BRow w' w.heap.size 5 v xs ∧ Below w.heap.size w w' := by
  obtain ⟨i0, hi, hz0, hz1, hz2⟩ := info_parts infoByte
  have qn : ∀ (w : World) (a : Option Addr) (n c : Nat), (binOp .eql 27 (.slice a n c) (.slice none 0 0)).run Try.prog w = .ok (.bool a.isNone) w := fun w a n c => Lib.run_eql_slice_nil w _ _ a n c 0 0 Try.underlying27
  have HX := Lib.hid hx
  cases A with
  | none =>
    obtain rfl : xs = [] := by
      cases xs with
      | nil => rfl
      | cons x l =>
        obtain ⟨g, o, e, _⟩ := hx.2 (by simp)
        cases e
    clear hx
    go_enter Try.func14, Try.ntmps14
    go_wp2
    go_ret
    exact ⟨_, rfl, BRow.nil _ _ _, Below.refl _ _⟩
  | some a =>
    clear hx
    have k0 := (Below.refl w.heap.size w).alloc (Nat.le_refl _) (.cells #[] 5)
    have HS := Lib.hid ((HX.out.grow k0).src)
    have K0 := Lib.hid k0
    have HO := Lib.hid (own_zero w w.heap.size 5 (Nat.le_refl _))
    clear k0
    go_enter Try.func14, Try.ntmps14
    go_wp2_with (at_builtin; refine wpList_append_row rfl _ _ 27 27 rfl w.heap.size 5 i0 (.int .u8 0) 1 1 Try.underlying27 hi hz0 hz1 hz2 rfl (.slice (some ⟨w.heap.size, 0, none⟩) 0 0) _ _ rfl HO.out _ xs.length (cb xs) rfl ?_ HS.out (by unfold maxLen; omega) (by omega) (by simp))
    intro v' w' h1 h2
    have hR : BRow w' w.heap.size 5 v' xs := h1
    have HR := Lib.hid hR
    have HB := Lib.hid (K0.out.trans (h2.below (B := w.heap.size) (by simp) (fun k e => by simp [Value.ownBlock] at e; omega)))
    clear h1 h2 hR
    go_wp2
    go_ret
    exact ⟨_, rfl, HR.out, HB.out⟩

theorem sort_end {w w1 : World} {g cap nn q : Nat} {os : Array Obj} {ss : List (List UInt8)} (hown : w1.ownsRow w.heap.size 9 1 (.slice (some ⟨g, 0, none⟩) ss.length cap) ss.length (ss.map encStr)) (hbel : Below w.heap.size w w1) (hbg : w.heap.size ≤ g) :
    TRow (putRow encStr (Sort.ahead (grow (putRow encStr (Sort.ahead w1 nn) g 0 (ss.mergeSort fun x y => decide (x ≤ y)).toArray) os) q) g 0 (Lib.compact (ss.mergeSort fun x y => decide (x ≤ y)) ++ List.replicate (ss.length - (Lib.compact (ss.mergeSort fun x y => decide (x ≤ y))).length) []).toArray)
      w.heap.size (.slice (some ⟨g, 0, none⟩) (Fi.sort ss).length cap) (Fi.sort ss) ∧
    Below w.heap.size w (putRow encStr (Sort.ahead (grow (putRow encStr (Sort.ahead w1 nn) g 0 (ss.mergeSort fun x y => decide (x ≤ y)).toArray) os) q) g 0 (Lib.compact (ss.mergeSort fun x y => decide (x ≤ y)) ++ List.replicate (ss.length - (Lib.compact (ss.mergeSort fun x y => decide (x ≤ y))).length) []).toArray) := by
  have hl2 : (ss.mergeSort fun x y => decide (x ≤ y)).length = ss.length := List.length_mergeSort ss
  have hle := Lib.compact_length_le (ss.mergeSort fun x y => decide (x ≤ y))
  rcases hown.2 with ⟨h0, _⟩ | ⟨g', cap', cur, hv, hbase, hb, h1, h2, h3, h4⟩
  · cases h0
  cases hv
  have hs := ownsRow_sorted (n := nn) (os := os) (ts := ss.mergeSort fun x y => decide (x ≤ y)) hl2 hbase hb h1 h2 h3
  have hc := Lib.ownsRow_putRow (q := q) (k := (Lib.compact (ss.mergeSort fun x y => decide (x ≤ y))).length) (ys := Lib.compact (ss.mergeSort fun x y => decide (x ≤ y)) ++ List.replicate (ss.length - (Lib.compact (ss.mergeSort fun x y => decide (x ≤ y))).length) []) hs (by simp; omega) (by omega)
  rw [List.take_left] at hc
  exact ⟨hc, Lib.below_putRow (hbel.grown (grownBy_sorted _) hbel.size (fun j hj => by cases hj; exact hbase)) hbg⟩
theorem slice_nn {o : Option Addr} {n c : Nat} (h : o ≠ none) : (Value.slice o n c) ≠ .slice none 0 0 := fun e => by injection e with e; exact h e

set_option maxHeartbeats 2000000 in
set_option maxRecDepth 100000 in
theorem wsort_any (A : Option Addr) (c : Nat) (xs : List (List UInt8)) (w : World) (hx : Txt w A c xs) (hn : xs.length ≤ 1000000000000) :
    Calls Try.prog 11 #[.slice A xs.length c] w fun e w' => ∃ v, e = .returned v ∧ TRow w' w.heap.size v (Fi.sort xs) ∧ Below w.heap.size w w' := by
  have HX := Lib.hid hx
  clear hx
  go_enter Try.func11, Try.ntmps11
  go_wp2_with fail
  refine (cloneS_any A c xs w HX.out hn).mono ?_
  rintro e w1 ⟨v1, rfl, hown, hbel⟩
  by_cases hnil : v1 = .slice none 0 0
  · subst hnil
    have hxs : xs = [] := by
      rcases hown.2 with ⟨_, h⟩ | ⟨g, cap, cur, h, _⟩
      · exact List.eq_nil_of_length_eq_zero h
      · cases h
    subst hxs
    have H1 := Lib.hid (fun w => Try.slices_Sort_string_none none 0 w)
    have H2 := Lib.hid (fun w => Try.slices_Compact_string_empty none 0 w)
    have HB := Lib.hid hbel
    clear hown hbel
    go_wp2_with fail
    refine (H1.out w1).mono ?_
    rintro e w2 ⟨rfl, rfl⟩
    go_wp2_with fail
    refine (H2.out w2).mono ?_
    rintro e w3 ⟨rfl, rfl⟩
    go_wp2
    go_ret
    exact ⟨_, rfl, by rw [show Fi.sort [] = [] from by unfold Fi.sort; simp [Lib.compact, Lib.compactUpTo]]; exact TRow.nil _ _, HB.out⟩
  · have hown2 : w1.ownsRow w.heap.size 9 1 v1 xs.length (xs.map encStr) := hown
    obtain ⟨g, cap, rfl, hbg, hgl, hncap, hcm, hlen, hH⟩ := Lib.holds_of_ownsRow hown2 hnil
    have hsort := Lib.hid (Try.slices_Sort_string g 0 cap xs w1 hH hgl (by omega))
    have X := Lib.hid hown2
    have HB := Lib.hid hbel
    have HH := Lib.hid hH
    clear hown hown2 hbel hH hnil
    go_wp2_with fail
    refine hsort.out.mono ?_
    rintro e w2 ⟨rfl, nn, os, hw2⟩
    have hl2 : (xs.mergeSort fun x y => decide (x ≤ y)).length = xs.length := List.length_mergeSort xs
    have hH2 : Holds encStr w2 g 0 (xs.mergeSort fun x y => decide (x ≤ y)).toArray := by
      rw [hw2]
      exact holds_grow encStr _ os g 0 _ (by simpa [putRow, mapBlock, Sort.ahead] using hgl) (holds_putRow encStr _ g 0 _ _ (holds_ahead encStr w1 nn g 0 _ HH.out) (by simp))
    have hcomp := Try.slices_Compact_string g 0 cap (xs.mergeSort fun x y => decide (x ≤ y)) w2 hH2 (by omega) (by omega)
    rw [hl2] at hcomp
    have HC := Lib.hid hcomp
    have HW2 := Lib.hid hw2
    clear hH2 hcomp hw2 hsort
    go_wp2_with fail
    refine HC.out.mono ?_
    rintro e w3 ⟨rfl, q, hw3⟩
    have hE := sort_end (nn := nn) (os := os) (q := q) X.out HB.out hbg
    rw [← HW2.out, ← hw3] at hE
    have HE := Lib.hid hE
    clear hE hw3
    go_wp2
    go_ret
    exact ⟨_, rfl, HE.out.1, HE.out.2⟩

theorem search_any (A : Option Addr) (c : Nat) (ns : List (List UInt8)) (s : List UInt8) (w : World) (hx : Txt w A c ns) (hn : ns.length ≤ 1000000000000) (hr : Fi.Rises ns) (hs : s ∈ ns) :
    Calls Try.prog 12 #[.slice A ns.length c, .string (bs s)] w fun e w' => e = .returned (.tuple #[.int .i64 (Fi.num ns s : Nat), .bool true]) ∧ Below w.heap.size w w' := by
  have h0 : 0 < ns.length := List.length_pos_of_mem hs
  obtain ⟨g, o, rfl, hg, hc⟩ := hx.2 h0
  have h1 := Any2.slices_BinarySearch_string Try.laysSearch g o ns.length c (fun t => bs (ns.getD t s)) (bs s) w (by omega) (fun j hj => by
    have := hc j _ (List.getElem?_eq_getElem hj)
    rw [this]; simp [List.getD, hj])
  rw [Fi.search hr hs] at h1
  obtain ⟨k1, k2⟩ := Fi.num_at hs
  rw [decide_eq_true (show Fi.num ns s < ns.length ∧ bs (ns.getD (Fi.num ns s) s) = bs s from ⟨k1, by rw [List.getD_eq_getElem?_getD, k2]; rfl⟩)] at h1
  refine (show Calls Try.prog 12 #[.slice (some ⟨g, o, none⟩) ns.length c, .string (bs s)] w _ from h1).mono ?_
  rintro e w' ⟨rfl, q, rfl⟩
  exact ⟨rfl, below_drewN (Below.refl _ _) q⟩

/-- Is it a class's name? -/
def Fi.isClass (l : List UInt8) : Bool := Lib.hasSuffix l [46, 99, 108, 97, 115, 115] && decide (6 < l.length)
set_option maxHeartbeats 2000000 in
theorem isClass_any (l : List UInt8) (w : World) (hl : l.length ≤ 140737488355328) : Calls Try.prog 10 #[.string (bs l)] w fun e w' => e = .returned (.bool (Fi.isClass l)) ∧ w' = w := by
  have hz := bs_size l
  have hS := Lib.hid (fun w => Try.strings_HasSuffix (bs l) ⟨#[46, 99, 108, 97, 115, 115]⟩ w (by rw [bs_size]; omega))
  have he : Fi.isClass l = (Lib.hasSuffix (bs l).data.toList (⟨#[46, 99, 108, 97, 115, 115]⟩ : ByteArray).data.toList && decide (6 < l.length)) := rfl
  rw [he]
  generalize Lib.hasSuffix (bs l).data.toList (⟨#[46, 99, 108, 97, 115, 115]⟩ : ByteArray).data.toList = r at hS
  by_cases h6 : 6 < l.length
  · have u1 : decide (6 < l.length) = true := decide_eq_true h6
    have u2 : decide ((6 : Int) < (l.length : Int)) = true := decide_eq_true (by omega)
    rw [u1]
    go_enter Try.func10, Try.ntmps10
    go_wp2_with fail
    refine (hS.out w).mono ?_
    rintro e w' ⟨rfl, rfl⟩
    cases r <;> (go_wp2; go_ret; exact ⟨rfl, rfl⟩)
  · have u1 : decide (6 < l.length) = false := decide_eq_false h6
    have u2 : decide ((6 : Int) < (l.length : Int)) = false := decide_eq_false (by omega)
    rw [u1]
    go_enter Try.func10, Try.ntmps10
    go_wp2_with fail
    refine (hS.out w).mono ?_
    rintro e w' ⟨rfl, rfl⟩
    cases r <;> (go_wp2; go_ret; exact ⟨rfl, rfl⟩)
end Go.Proofs.Ytdgoffpfcgipkaa
