/- Joined texts: PpWalksC, PpWalksD, PpShelf, PpWalksE, PpPlainB, PpPlainC, PpWalksF, PpPlainD. -/
import Derived.Test.YtbdkoagagcemcaaPk1
import Derived.Deep.Cut
import Derived.Shelf.Small.Bits
import Derived.Shelf.Small.Wraps
import Derived.Shelf.Strconv.Itoa0
import Derived.Shelf.Sort.Plain
import Derived.Ground.Names2Prog
import Derived.Shelf.Slices.Clone
import Derived.Shelf.Slices.CompactS
import Derived.Shelf.Slices.SearchI
import Derived.Shelf.Slices.Cells
import Derived.Shelf.Slices.In.SortNone
import Derived.Ground.SlgfProg
import Derived.Shelf.SlicesE.IndexFunc
import Derived.Ground.SlsfProg
import Derived.Shelf.SlLaysZI
import Derived.Shelf.SlLaysDf
import Derived.Shelf.SlLaysF
import Derived.Shelf.SlLaysH
import Derived.Ground.GgzProg
import Derived.Ground.SlmdProg
import Derived.Test.YtbdkoagagcemcaaProg
import Derived.Deep.OwnRows
/- The walks of layer 25: splitting. -/
namespace Go.Proofs.Ytbdkoagagcemcaa.Pp
open Go.RowKit Go.Maps

/-- One number on, onto a row of the call's own. -/
theorem wpList_app1 {w : World} {ops : Array Oper} {rest : List Oper} {o : Oper} {a : Act} {Q : Exit → Act → World → Prop} (hgd : o.guard = none) (s x : Operand)
    (ho : o.op = .call { callee := .builtin .append, args := #[s, x], argTypes := #[22, 22] })
    (base : Nat) (v : Value) (xs : List Int) (hv : a.eval s = v) (hown : IRow w base v xs) (B : Nat) (n : Int) (t : TypeId) (fr : Nat × Nat) (hX : a.eval x = .slice (some ⟨B, 0, none⟩) 1 1)
    (hb : w.heap[B]? = some (.cells #[.int .i64 n] t fr)) (hn : xs.length ≤ 1000000) (hbase : base ≤ w.heap.size)
    (h : ∀ v' w', IRow w' base v' (xs ++ [n]) → Hop w w' v.ownBlock v'.ownBlock → wpList Try.prog ops Q rest (a.put o.dst v') w') : wpList Try.prog ops Q (o :: rest) a w := by
  obtain ⟨i0, hi, hz0, hz1, hz2⟩ := info_parts infoInt
  refine wpList_append_row hgd s x 22 22 ho base 3 i0 (.int .i64 0) 1 8 Try.underlying22 hi hz0 hz1 hz2 rfl v _ _ hv hown _ 1 [.int .i64 n] hX (fun v' w' h1 h2 => h v' w' (IRow.app (ys := [n]) h1 rfl) h2) ?_ ?_ ?_ hbase
  · exact src_block Try.underlying22 1 1 1 _ #[.int .i64 n] _ _ hb rfl (by simp [Value.oneCell'])
  · unfold maxLen; omega
  · omega
theorem _root_.Go.Proofs.Ytbdkoagagcemcaa.IRow.base {w : World} {base base' : Nat} {v : Value} {xs : List Int} (h : IRow w base v xs) (hb : base' ≤ base) : IRow w base' v xs := by
  refine ⟨h.1, ?_⟩
  rcases h.2 with hn | ⟨g, cap, cur, hv, hbg, rest⟩
  · exact .inl hn
  · exact .inr ⟨g, cap, cur, hv, Nat.le_trans hb hbg, rest⟩
/-- Two rows that share no block. -/
def Apart (v1 v2 : Value) : Prop := ∀ k, v1.ownBlock = some k → v2.ownBlock ≠ some k
theorem Apart.nil (v : Value) : Apart (.slice none 0 0) v := fun _ h => by simp [Value.ownBlock] at h
theorem Apart.symm {v1 v2 : Value} (h : Apart v1 v2) : Apart v2 v1 := fun k h2 h1 => h k h1 h2
theorem _root_.Go.Proofs.Ytbdkoagagcemcaa.IRow.other {w w' : World} {base : Nat} {v1 v1' v2 : Value} {xs : List Int} (h : IRow w base v2 xs) (hop : Hop w w' v1.ownBlock v1'.ownBlock) (ap : Apart v1 v2) : IRow w' base v2 xs ∧ Apart v1' v2 := by
  refine ⟨World.ownsRow.kept h hop.1 ?_, fun k hk h2 => ?_⟩
  · cases h2 : v2.ownBlock with
    | none => exact .inl rfl
    | some k => exact .inr (fun e => ap k e.symm h2)
  · rcases hop.2 with e | ⟨g, hg, e⟩
    · rw [e] at hk; exact ap k hk h2
    · rw [e] at hk
      cases hk
      have := (World.ownsRow.lt h k h2).2
      omega
theorem _root_.Go.Proofs.Ytbdkoagagcemcaa.IRow.hop_below {w w' : World} {base : Nat} {v v' : Value} {xs : List Int} (h : IRow w base v xs) (hop : Hop w w' v.ownBlock v'.ownBlock) {B : Nat} {a : World} (hB : Below B a w) (h1 : B ≤ a.heap.size) (h2 : B ≤ base) : Below B a w' :=
  hB.trans (hop.below (Nat.le_trans h1 hB.size) (fun _ e => Nat.le_trans h2 (h.base_le e)))

/-- What the call comes to. -/
def SplitRes (fs l : List Int) (w : World) (e : Ending) (w' : World) : Prop :=
  ∃ v1 v2, e = .returned (.tuple #[v1, v2]) ∧ IRow w' w.heap.size v1 (Po.tokens fs l) ∧ IRow w' w.heap.size v2 (Po.left fs l) ∧ Below w.heap.size w w'

set_option maxHeartbeats 8000000 in
set_option maxRecDepth 100000 in
theorem split_any (A B : Option Addr) (c d : Nat) (l fs : List Int) (w : World) (hx : Ints w A c l) (hy : Ints w B d fs) (hI : ∀ x ∈ l, I64 x) (hJ : ∀ x ∈ fs, I64 x) (hn : l.length ≤ 100000) (hm : fs.length ≤ 100000) :
    Calls Try.prog 52 #[.slice A l.length c, .slice B fs.length d] w (SplitRes fs l w) := by
  have HX := Lib.hid hx
  have HI := Lib.hid hI
  have HPL := Lib.hid (places_any B d fs w hy hJ (by omega))
  clear hx hy hI hJ
  go_enter Try.func52, Try.ntmps52
  go_wp2_with fail
  refine HPL.out.mono ?_
  rintro e w0 ⟨rfl, hP, hb0⟩
  obtain ⟨D, hO, hMI, _⟩ := hP
  have HO := Lib.hid hO
  have HM := Lib.hid hMI
  have HB0 := Lib.hid hb0
  have hlt0 := hO.lt
  clear hO hMI hb0 HPL
  go_wp2_with fail
  go_loopw [4, 5, 13] (fun v1 v2 u wr => ∃ i : Nat, i ≤ l.length ∧ u = .int .i64 i ∧ IRow wr w0.heap.size v1 (Po.tokens fs (l.take i)) ∧ IRow wr w0.heap.size v2 (Po.left fs (l.take i)) ∧ Apart v1 v2 ∧ Below w0.heap.size w0 wr) (fun _ _ u _ => l.length - (intOf u).toNat)
  case atStart => exact ⟨0, Nat.zero_le _, rfl, IRow.nil _ _, IRow.nil _ _, Apart.nil _, Below.refl _ _⟩
  case round =>
    obtain ⟨i, hil, rfl, hr1, hr2, hap, hB⟩ := hrel
    have HB := Lib.hid hB
    have HR1 := Lib.hid hr1
    have HR2 := Lib.hid hr2
    have HAP := Lib.hid hap
    have hlt : (Po.tokens fs (l.take i)).length ≤ l.length := by unfold Po.tokens; rw [List.length_map, List.length_take]; omega
    have hll : (Po.left fs (l.take i)).length ≤ l.length := by unfold Po.left; exact Nat.le_trans (List.length_filter_le _ _) (by rw [List.length_take]; omega)
    by_cases h1 : i < l.length
    · obtain ⟨g, o, x, rfl, hg, hxi, hcell⟩ := (HX.out.grow (Below.after' HB0.out (hB.mono (Nat.le_refl _)) (Nat.le_refl _))).at_ h1
      have hIx := HI.out x (List.mem_of_getElem? hxi)
      have htk := Lib.hid (take_snocI l i x hxi)
      have hO2 := Lib.hid (HO.out.keep (hB.mono (Nat.le_refl _)))
      have hlook := look_run hO2.out HM.out hIx
      have hIx2 := Lib.hid hIx
      have hzr := hB.size
      have hT := Lib.hid (show Po.tokens fs (l.take (i + 1)) = Po.tokens fs (l.take i) ++ [(Po.at fs x : Int)] by rw [htk.out, Po.tokens_snoc])
      clear hB hr1 hr2 hap hxi hIx
      by_cases h0 : Po.at fs x = 0
      · have q : (((Po.at fs x : Nat) : Int) == 0) = true := by simp [h0]
        have q2 : (Po.at fs x == 0) = true := by simp [h0]
        have hL := Lib.hid (show Po.left fs (l.take (i + 1)) = Po.left fs (l.take i) ++ [x] by rw [htk.out, Po.left_snoc, if_pos h0])
        clear h0

        go_upto_region 7 with ((at_builtin; refine wpList_app1 rfl _ _ rfl w0.heap.size u4 _ rfl (HR1.out.grow ((Below.refl _ _).alloc (Nat.le_refl _) _)) wr.heap.size ((Po.at fs x : Nat) : Int) _ _ rfl (heap_alloc_new _ _) (by omega) (by simp; omega) ?_; intro v' w1 hown1 hhop1; have hR1 := Lib.hid hown1; have hR2 := Lib.hid ((HR2.out.grow ((Below.refl _ _).alloc (Nat.le_refl _) (.cells #[.int .i64 ((Po.at fs x : Nat) : Int)] 3))).other hhop1 HAP.out); have HB1 := Lib.hid ((HR1.out.grow ((Below.refl _ _).alloc (Nat.le_refl _) (.cells #[.int .i64 ((Po.at fs x : Nat) : Int)] 3))).hop_below hhop1 (HB.out.alloc hzr _) (Nat.le_refl _) (Nat.le_refl _)); have hlook1 := look_run (HO.out.keep HB1.out) HM.out hIx2.out; have hz1 := HB1.out.size; clear hown1 hhop1 hlook))
        go_wp2_with (at_builtin; (refine wpList_app1 rfl _ _ rfl w0.heap.size u5 _ rfl (hR2.out.1.grow ((Below.refl _ _).alloc (Nat.le_refl _) _)) w1.heap.size x _ _ rfl (heap_alloc_new _ _) (by omega) (by simp; omega) ?_))
        intro v2' w2 hown2 hhop2
        have hS2 := Lib.hid hown2
        have hS1 := Lib.hid ((hR1.out.grow ((Below.refl _ _).alloc (Nat.le_refl _) (.cells #[.int .i64 x] 3))).other hhop2 hR2.out.2.symm)
        have HB2 := Lib.hid ((hR2.out.1.grow ((Below.refl _ _).alloc (Nat.le_refl _) (.cells #[.int .i64 x] 3))).hop_below hhop2 (HB1.out.alloc hz1 _) (Nat.le_refl _) (Nat.le_refl _))
        clear hown2 hhop2 hlook1
        go_wp2_with fail
        go_roundw
        case rel => exact ⟨i + 1, by omega, by go_num, by rw [hT.out]; exact hS1.out.1, by rw [hL.out]; exact hS2.out, hS1.out.2.symm, HB2.out⟩
        case measure => simp [intOf]; omega
      · have q : (((Po.at fs x : Nat) : Int) == 0) = false := by simp [h0]
        have q2 : (Po.at fs x == 0) = false := by simp [h0]
        have hL := Lib.hid (show Po.left fs (l.take (i + 1)) = Po.left fs (l.take i) by rw [htk.out, Po.left_snoc, if_neg h0, List.append_nil])
        clear h0

        go_wp2_with (first | (at_builtin; refine wpList_app1 rfl _ _ rfl w0.heap.size u4 _ rfl (HR1.out.grow ((Below.refl _ _).alloc (Nat.le_refl _) _)) wr.heap.size ((Po.at fs x : Nat) : Int) _ _ rfl (heap_alloc_new _ _) (by omega) (by simp; omega) ?_; intro v' w1 hown1 hhop1; have hR1 := Lib.hid hown1; have hR2 := Lib.hid ((HR2.out.grow ((Below.refl _ _).alloc (Nat.le_refl _) (.cells #[.int .i64 ((Po.at fs x : Nat) : Int)] 3))).other hhop1 HAP.out); have HB1 := Lib.hid ((HR1.out.grow ((Below.refl _ _).alloc (Nat.le_refl _) (.cells #[.int .i64 ((Po.at fs x : Nat) : Int)] 3))).hop_below hhop1 (HB.out.alloc hzr _) (Nat.le_refl _) (Nat.le_refl _)); have hlook1 := look_run (HO.out.keep HB1.out) HM.out hIx2.out; have hz1 := HB1.out.size; clear hown1 hhop1 hlook) | fail)
        go_roundw
        case rel => exact ⟨i + 1, by omega, by go_num, by rw [hT.out]; exact hR1.out, by rw [hL.out]; exact hR2.out.1, hR2.out.2, HB1.out⟩
        case measure => simp [intOf]; omega
    · have hfin : l.take i = l := List.take_of_length_le (by omega)
      rw [hfin] at hr1 hr2
      have HJ := Lib.hid (Below.after' HB0.out hB (Nat.le_refl _))
      have hbase := HB0.out.size
      have HS1 := Lib.hid hr1
      have HS2 := Lib.hid hr2
      clear hr1 hr2 hB hap
      go_wp2
      go_ret2
      exact ⟨_, _, rfl, HS1.out.base hbase, HS2.out.base hbase, HJ.out⟩
end Go.Proofs.Ytbdkoagagcemcaa.Pp
/- The walk of layer 25's reference: splitting. -/
namespace Go.Proofs.Ytbdkoagagcemcaa.Pp
open Go.RowKit Go.Maps

/-- The place among the favorites from i on. -/
def Po.from (fs : List Int) (v : Int) (i : Nat) : Nat := if Po.at (fs.drop i) v = 0 then 0 else Po.at (fs.drop i) v + i
theorem Po.from_end (fs : List Int) (v : Int) : Po.from fs v fs.length = 0 := by unfold Po.from; rw [List.drop_length]; rfl
theorem Po.from_zero (fs : List Int) (v : Int) : Po.from fs v 0 = Po.at fs v := by unfold Po.from; rw [List.drop_zero]; split <;> omega
theorem Po.from_step {fs : List Int} {i : Nat} {f : Int} (h : fs[i]? = some f) (v : Int) : Po.from fs v i = if f = v then i + 1 else Po.from fs v (i + 1) := by
  obtain ⟨h1, rfl⟩ := List.getElem?_eq_some_iff.1 h
  unfold Po.from
  rw [List.drop_eq_getElem_cons h1, Po.at_cons]
  by_cases e : fs[i] = v
  · simp [e]; omega
  · simp only [e, if_false]
    by_cases h0 : Po.at (fs.drop (i + 1)) v = 0
    · simp [h0]
    · simp [h0]; omega
theorem Po.from_le (fs : List Int) (v : Int) (i : Nat) (hi : i ≤ fs.length) : Po.from fs v i ≤ fs.length := by
  have := Po.at_le (fs.drop i) v
  rw [List.length_drop] at this
  unfold Po.from
  split <;> omega

end Go.Proofs.Ytbdkoagagcemcaa.Pp
/-
  DERIVED: THE SHELF's CONTRACTS AT THIS DUMP, IN PLAIN WORDS (tools/lay-plain.mjs out of 'TryShelf.lean', which tools/lay-shelf.mjs wrote): THE SAME DECLARATIONS UNDER THE SAME NAMES: 'import', 'namespace', 'open', 'def', 'theorem' AND NOTHING ELSE: no command of the shelf's: FOR A HAND-IN. Each laying: the table of numbers ('.._ren') and one theorem, a field a fact of the dump's own or the kernel's comparison; each contract: ONE APPLICATION.
-/
namespace Go.Proofs
open Go.Shelf
def Try.keysA_ren : Go.Shelf.Ren := ⟨fun | 7 => 76 | 10 => 97 | n => n, fun | 23 => 92 | 26 => 3 | 3 => 3 | 28 => 97 | 0 => 0 | 27 => 96 | 33 => 81 | 4 => 4 | n => n, fun | n => n⟩
theorem Try.keysA : Go.Proofs.SlLaysZI.n7 Try.prog Try.keysA_ren := {
  mixed := by kernel_rfl
  f7 := ⟨Try.f76.name, by decide, Try.func76.trans (congrArg some (by kernel_rfl))⟩
  f10 := ⟨Try.f97.name, by decide, Try.func97.trans (congrArg some (by kernel_rfl))⟩
  t0 := Try.underlying0
  a0 := Try.isAgg0
  z0 := Try.sizeOf0
  v0 := Try.zeroValue0
  t4 := Try.underlying4
  a4 := Try.isAgg4
  z4 := Try.sizeOf4
  v4 := Try.zeroValue4
  t23 := Try.underlying92
  a23 := Try.isAgg92
  z23 := Try.sizeOf92
  v23 := Try.zeroValue92
  t26 := Try.underlying3
  a26 := Try.isAgg3
  z26 := Try.sizeOf3
  v26 := Try.zeroValue3
  t27 := Try.underlying96
  a27 := Try.isAgg96
  z27 := Try.sizeOf96
  v27 := Try.zeroValue96
  t28 := Try.underlying97
  a28 := Try.isAgg97
  z28 := Try.sizeOf97
  v28 := Try.zeroValue97
  t33 := Try.underlying81
  a33 := Try.isAgg81
  z33 := Try.sizeOf81
  v33 := Try.zeroValue81 }
def Try.collectA_ren : Go.Shelf.Ren := ⟨fun | 8 => 95 | 11 => 108 | n => n, fun | 26 => 3 | 28 => 97 | 24 => 22 | 0 => 0 | 33 => 81 | 4 => 4 | n => n, fun | n => n⟩
theorem Try.collectA : Go.Proofs.SlLaysZI.n8 Try.prog Try.collectA_ren := {
  mixed := by kernel_rfl
  f8 := ⟨Try.f95.name, by decide, Try.func95.trans (congrArg some (by kernel_rfl))⟩
  f11 := ⟨Try.f108.name, by decide, Try.func108.trans (congrArg some (by kernel_rfl))⟩
  t0 := Try.underlying0
  a0 := Try.isAgg0
  z0 := Try.sizeOf0
  v0 := Try.zeroValue0
  t24 := Try.underlying22
  a24 := Try.isAgg22
  z24 := Try.sizeOf22
  v24 := Try.zeroValue22
  t26 := Try.underlying3
  a26 := Try.isAgg3
  z26 := Try.sizeOf3
  v26 := Try.zeroValue3
  t28 := Try.underlying97
  a28 := Try.isAgg97
  z28 := Try.sizeOf97
  v28 := Try.zeroValue97
  i26 := by kernel_rfl }
def Try.delA_ren : Go.Shelf.Ren := ⟨fun | 5 => 73 | n => n, fun | 23 => 92 | 26 => 3 | 24 => 3 | 27 => 94 | 0 => 0 | 4 => 4 | n => n, fun | n => n⟩
theorem Try.delA : Go.Proofs.SlLaysDf.n5 Try.prog Try.delA_ren := {
  mixed := by kernel_rfl
  f5 := ⟨Try.f73.name, by decide, Try.func73.trans (congrArg some (by kernel_rfl))⟩
  t0 := Try.underlying0
  a0 := Try.isAgg0
  z0 := Try.sizeOf0
  v0 := Try.zeroValue0
  t4 := Try.underlying4
  a4 := Try.isAgg4
  z4 := Try.sizeOf4
  v4 := Try.zeroValue4
  t23 := Try.underlying92
  a23 := Try.isAgg92
  z23 := Try.sizeOf92
  v23 := Try.zeroValue92
  a24 := Try.isAgg3
  z24 := Try.sizeOf3
  a26 := Try.isAgg3
  z26 := Try.sizeOf3
  t27 := Try.underlying94
  a27 := Try.isAgg94
  z27 := Try.sizeOf94
  v27 := Try.zeroValue94 }
def Try.sortA_ren : Go.Shelf.Ren := ⟨fun | 6 => 96 | 15 => 66 | 14 => 109 | 28 => 92 | 29 => 93 | 20 => 112 | 21 => 113 | 22 => 114 | 23 => 115 | 24 => 116 | 25 => 117 | 26 => 118 | 27 => 119 | 46 => 120 | 47 => 103 | 48 => 104 | 49 => 121 | 50 => 122 | 57 => 123 | n => n, fun | 22 => 22 | 24 => 3 | 25 => 100 | 3 => 3 | 39 => 82 | 0 => 0 | 53 => 113 | 55 => 61 | 4 => 4 | 46 => 106 | 45 => 105 | 50 => 48 | 5 => 5 | 9 => 9 | 66 => 118 | 70 => 122 | 76 => 128 | 77 => 129 | n => n, fun | n => n⟩
theorem Try.sortA : Go.Proofs.SlLaysF.n6 Try.prog Try.sortA_ren := {
  mixed := by kernel_rfl
  f6 := ⟨Try.f96.name, by decide, Try.func96.trans (congrArg some (by kernel_rfl))⟩
  f14 := ⟨Try.f109.name, by decide, Try.func109.trans (congrArg some (by kernel_rfl))⟩
  f15 := Try.func66.trans (congrArg some (by kernel_rfl))
  f20 := ⟨Try.f112.name, by decide, Try.func112.trans (congrArg some (by kernel_rfl))⟩
  f21 := ⟨Try.f113.name, by decide, Try.func113.trans (congrArg some (by kernel_rfl))⟩
  f22 := ⟨Try.f114.name, by decide, Try.func114.trans (congrArg some (by kernel_rfl))⟩
  f23 := ⟨Try.f115.name, by decide, Try.func115.trans (congrArg some (by kernel_rfl))⟩
  f24 := ⟨Try.f116.name, by decide, Try.func116.trans (congrArg some (by kernel_rfl))⟩
  f25 := ⟨Try.f117.name, by decide, Try.func117.trans (congrArg some (by kernel_rfl))⟩
  f26 := ⟨Try.f118.name, by decide, Try.func118.trans (congrArg some (by kernel_rfl))⟩
  f27 := ⟨Try.f119.name, by decide, Try.func119.trans (congrArg some (by kernel_rfl))⟩
  f28 := Try.func92.trans (congrArg some (by kernel_rfl))
  f29 := Try.func93.trans (congrArg some (by kernel_rfl))
  f46 := ⟨Try.f120.name, by decide, Try.func120.trans (congrArg some (by kernel_rfl))⟩
  f47 := Try.func103.trans (congrArg some (by kernel_rfl))
  f48 := Try.func104.trans (congrArg some (by kernel_rfl))
  f49 := ⟨Try.f121.name, by decide, Try.func121.trans (congrArg some (by kernel_rfl))⟩
  f50 := ⟨Try.f122.name, by decide, Try.func122.trans (congrArg some (by kernel_rfl))⟩
  f57 := ⟨Try.f123.name, by decide, Try.func123.trans (congrArg some (by kernel_rfl))⟩
  t0 := Try.underlying0
  a0 := Try.isAgg0
  z0 := Try.sizeOf0
  v0 := Try.zeroValue0
  t3 := Try.underlying3
  a3 := Try.isAgg3
  z3 := Try.sizeOf3
  v3 := Try.zeroValue3
  t4 := Try.underlying4
  a4 := Try.isAgg4
  z4 := Try.sizeOf4
  v4 := Try.zeroValue4
  t5 := Try.underlying5
  a5 := Try.isAgg5
  z5 := Try.sizeOf5
  v5 := Try.zeroValue5
  t9 := Try.underlying9
  a9 := Try.isAgg9
  z9 := Try.sizeOf9
  v9 := Try.zeroValue9
  t22 := Try.underlying22
  a22 := Try.isAgg22
  z22 := Try.sizeOf22
  v22 := Try.zeroValue22
  a24 := Try.isAgg3
  z24 := Try.sizeOf3
  t25 := Try.underlying100
  a25 := Try.isAgg100
  z25 := Try.sizeOf100
  v25 := Try.zeroValue100
  t39 := Try.underlying82
  a39 := Try.isAgg82
  z39 := Try.sizeOf82
  v39 := Try.zeroValue82
  t45 := Try.underlying105
  a45 := Try.isAgg105
  z45 := Try.sizeOf105
  v45 := Try.zeroValue105
  t46 := Try.underlying106
  a46 := Try.isAgg106
  z46 := Try.sizeOf106
  v46 := Try.zeroValue106
  t50 := Try.underlying48
  a50 := Try.isAgg48
  z50 := Try.sizeOf48
  v50 := Try.zeroValue48
  t53 := Try.underlying113
  a53 := Try.isAgg113
  z53 := Try.sizeOf113
  v53 := Try.zeroValue113
  t55 := Try.underlying61
  a55 := Try.isAgg61
  z55 := Try.sizeOf61
  v55 := Try.zeroValue61
  t66 := Try.underlying118
  a66 := Try.isAgg118
  z66 := Try.sizeOf118
  v66 := Try.zeroValue118
  t70 := Try.underlying122
  a70 := Try.isAgg122
  z70 := Try.sizeOf122
  v70 := Try.zeroValue122
  t76 := Try.underlying128
  a76 := Try.isAgg128
  z76 := Try.sizeOf128
  v76 := Try.zeroValue128
  t77 := Try.underlying129
  a77 := Try.isAgg129
  z77 := Try.sizeOf129
  v77 := Try.zeroValue129 }
def Try.idxA_ren : Go.Shelf.Ren := ⟨fun | 6 => 110 | n => n, fun | 22 => 22 | 23 => 3 | 25 => 81 | 3 => 3 | 0 => 0 | 4 => 4 | n => n, fun | n => n⟩
theorem Try.idxA : Go.Proofs.SlLaysH.n6 Try.prog Try.idxA_ren := {
  mixed := by kernel_rfl
  f6 := ⟨Try.f110.name, by decide, Try.func110.trans (congrArg some (by kernel_rfl))⟩
  t0 := Try.underlying0
  a0 := Try.isAgg0
  z0 := Try.sizeOf0
  v0 := Try.zeroValue0
  t3 := Try.underlying3
  a3 := Try.isAgg3
  z3 := Try.sizeOf3
  v3 := Try.zeroValue3
  t4 := Try.underlying4
  a4 := Try.isAgg4
  z4 := Try.sizeOf4
  v4 := Try.zeroValue4
  t22 := Try.underlying22
  a22 := Try.isAgg22
  z22 := Try.sizeOf22
  v22 := Try.zeroValue22
  a23 := Try.isAgg3
  z23 := Try.sizeOf3
  t25 := Try.underlying81
  a25 := Try.isAgg81
  z25 := Try.sizeOf81
  v25 := Try.zeroValue81 }
def Try.conA_ren : Go.Shelf.Ren := ⟨fun | 8 => 99 | 6 => 110 | n => n, fun | 22 => 22 | 23 => 3 | 25 => 81 | 4 => 4 | 3 => 3 | 0 => 0 | n => n, fun | n => n⟩
theorem Try.conA : Go.Proofs.SlLaysH.n8 Try.prog Try.conA_ren := {
  mixed := by kernel_rfl
  f6 := ⟨Try.f110.name, by decide, Try.func110.trans (congrArg some (by kernel_rfl))⟩
  f8 := ⟨Try.f99.name, by decide, Try.func99.trans (congrArg some (by kernel_rfl))⟩
  t0 := Try.underlying0
  a0 := Try.isAgg0
  z0 := Try.sizeOf0
  v0 := Try.zeroValue0
  t3 := Try.underlying3
  a3 := Try.isAgg3
  z3 := Try.sizeOf3
  v3 := Try.zeroValue3
  t4 := Try.underlying4
  a4 := Try.isAgg4
  z4 := Try.sizeOf4
  v4 := Try.zeroValue4
  t22 := Try.underlying22
  a22 := Try.isAgg22
  z22 := Try.sizeOf22
  v22 := Try.zeroValue22
  a23 := Try.isAgg3
  z23 := Try.sizeOf3
  t25 := Try.underlying81
  a25 := Try.isAgg81
  z25 := Try.sizeOf81
  v25 := Try.zeroValue81 }
def Try.lays128_ren : Go.Shelf.Ren := ⟨fun | 128 => 92 | n => n, fun | 51 => 113 | 3 => 3 | 4 => 4 | 46 => 82 | 5 => 5 | 9 => 9 | n => n, fun | n => n⟩
theorem Try.lays128 : Go.Proofs.Lays.n128 Try.prog Try.lays128_ren := {
  mixed := by kernel_rfl
  f128 := Try.func92.trans (congrArg some (by kernel_rfl))
  t3 := Try.underlying3
  a3 := Try.isAgg3
  z3 := Try.sizeOf3
  v3 := Try.zeroValue3
  t4 := Try.underlying4
  a4 := Try.isAgg4
  z4 := Try.sizeOf4
  v4 := Try.zeroValue4
  t5 := Try.underlying5
  a5 := Try.isAgg5
  z5 := Try.sizeOf5
  v5 := Try.zeroValue5
  t9 := Try.underlying9
  a9 := Try.isAgg9
  z9 := Try.sizeOf9
  v9 := Try.zeroValue9
  t46 := Try.underlying82
  a46 := Try.isAgg82
  z46 := Try.sizeOf82
  v46 := Try.zeroValue82
  t51 := Try.underlying113
  a51 := Try.isAgg113
  z51 := Try.sizeOf113
  v51 := Try.zeroValue113 }
/-- bits.Len32: "Len32 returns the minimum number of bits required to represent x; the result is 0 for x == 0.": IT RETURNS 'Lib.bitLen x'; the world is as it was. ('h0', 'h1': x is a uint32.) (LAID: no walk: one application.) -/
theorem Try.bits_Len32 (x : Int) (w : World) (h0 : 0 ≤ x) (h1 : x ≤ 4294967295) :
    Calls Try.prog 92 #[.int .u32 x] w fun e w' => e = .returned (.int .i64 (Lib.bitLen x.toNat)) ∧ w' = w := Any.bits_Len32 Try.lays128 x w h0 h1
def Try.lays125_ren : Go.Shelf.Ren := ⟨fun | 125 => 66 | 128 => 92 | 129 => 93 | n => n, fun | 46 => 82 | 3 => 3 | 51 => 113 | 53 => 61 | 4 => 4 | 5 => 5 | 9 => 9 | n => n, fun | n => n⟩
theorem Try.lays125 : Go.Proofs.Lays.n125 Try.prog Try.lays125_ren := {
  mixed := by kernel_rfl
  f125 := Try.func66.trans (congrArg some (by kernel_rfl))
  f128 := Try.func92.trans (congrArg some (by kernel_rfl))
  f129 := Try.func93.trans (congrArg some (by kernel_rfl))
  t3 := Try.underlying3
  a3 := Try.isAgg3
  z3 := Try.sizeOf3
  v3 := Try.zeroValue3
  t4 := Try.underlying4
  a4 := Try.isAgg4
  z4 := Try.sizeOf4
  v4 := Try.zeroValue4
  t5 := Try.underlying5
  a5 := Try.isAgg5
  z5 := Try.sizeOf5
  v5 := Try.zeroValue5
  t9 := Try.underlying9
  a9 := Try.isAgg9
  z9 := Try.sizeOf9
  v9 := Try.zeroValue9
  t46 := Try.underlying82
  a46 := Try.isAgg82
  z46 := Try.sizeOf82
  v46 := Try.zeroValue82
  t51 := Try.underlying113
  a51 := Try.isAgg113
  z51 := Try.sizeOf113
  v51 := Try.zeroValue113
  t53 := Try.underlying61
  a53 := Try.isAgg61
  z53 := Try.sizeOf61
  v53 := Try.zeroValue61 }
/-- bits.Len: "Len returns the minimum number of bits required to represent x; the result is 0 for x == 0.": IT RETURNS 'Lib.bitLen x'; the world is as it was. (A uint has 64 bits in the model.) ITS CALLEE bits.Len64 IS MET BY ITS OWN CONTRACT OFF THE SHELF (lay that first). (LAID: no walk: one application.) -/
theorem Try.bits_Len (x : Int) (w : World) (h0 : 0 ≤ x) (h1 : x ≤ 18446744073709551615) :
    Calls Try.prog 66 #[.int .u64 x] w fun e w' => e = .returned (.int .i64 (Lib.bitLen x.toNat)) ∧ w' = w := Any.bits_Len Try.lays125 x w h0 h1
def Try.lays215_ren : Go.Shelf.Ren := ⟨fun | 215 => 98 | n => n, fun | 3 => 3 | 4 => 4 | n => n, fun | n => n⟩
theorem Try.lays215 : Go.Proofs.Lays.n215 Try.prog Try.lays215_ren := {
  mixed := by kernel_rfl
  f215 := Try.func98.trans (congrArg some (by kernel_rfl))
  t3 := Try.underlying3
  a3 := Try.isAgg3
  z3 := Try.sizeOf3
  v3 := Try.zeroValue3
  t4 := Try.underlying4
  a4 := Try.isAgg4
  z4 := Try.sizeOf4
  v4 := Try.zeroValue4 }
open Go.RowKit in
/-- cmp.isNaN at int: 'x != x': false. (LAID: no walk: one application.) -/
theorem Try.cmp_isNaN_int (x : Int) (w : World) :
    Calls Try.prog 98 #[.int .i64 x] w fun e w' => e = .returned (.bool false) ∧ w' = w := Any.cmp_isNaN_int Try.lays215 x w
def Try.lays122_ren : Go.Shelf.Ren := ⟨fun | 122 => 79 | 215 => 98 | n => n, fun | 3 => 3 | 4 => 4 | n => n, fun | n => n⟩
theorem Try.lays122 : Go.Proofs.Lays.n122 Try.prog Try.lays122_ren := {
  mixed := by kernel_rfl
  f122 := Try.func79.trans (congrArg some (by kernel_rfl))
  f215 := Try.func98.trans (congrArg some (by kernel_rfl))
  t3 := Try.underlying3
  a3 := Try.isAgg3
  z3 := Try.sizeOf3
  v3 := Try.zeroValue3
  t4 := Try.underlying4
  a4 := Try.isAgg4
  z4 := Try.sizeOf4
  v4 := Try.zeroValue4 }
open Go.RowKit in
/-- cmp.Compare at int: "Compare returns -1 if x is less than y, 0 if x equals y, +1 if x is greater than y.": IT RETURNS 'Lib.compareInt x y'; the world is as it was. (LAID: no walk: one application.) -/
theorem Try.cmp_Compare_int (x y : Int) (w : World) :
    Calls Try.prog 79 #[.int .i64 x, .int .i64 y] w fun e w' => e = .returned (.int .i64 (Lib.compareInt x y)) ∧ w' = w := Any.cmp_Compare_int Try.lays122 x y w
def Try.lays129_ren : Go.Shelf.Ren := ⟨fun | 129 => 93 | n => n, fun | 53 => 61 | 3 => 3 | 4 => 4 | 46 => 82 | 5 => 5 | 9 => 9 | n => n, fun | n => n⟩
theorem Try.lays129 : Go.Proofs.Lays.n129 Try.prog Try.lays129_ren := {
  mixed := by kernel_rfl
  f129 := Try.func93.trans (congrArg some (by kernel_rfl))
  t3 := Try.underlying3
  a3 := Try.isAgg3
  z3 := Try.sizeOf3
  v3 := Try.zeroValue3
  t4 := Try.underlying4
  a4 := Try.isAgg4
  z4 := Try.sizeOf4
  v4 := Try.zeroValue4
  t5 := Try.underlying5
  a5 := Try.isAgg5
  z5 := Try.sizeOf5
  v5 := Try.zeroValue5
  t9 := Try.underlying9
  a9 := Try.isAgg9
  z9 := Try.sizeOf9
  v9 := Try.zeroValue9
  t46 := Try.underlying82
  a46 := Try.isAgg82
  z46 := Try.sizeOf82
  v46 := Try.zeroValue82
  t53 := Try.underlying61
  a53 := Try.isAgg61
  z53 := Try.sizeOf61
  v53 := Try.zeroValue61 }
/-- bits.Len64: "Len64 returns the minimum number of bits required to represent x; the result is 0 for x == 0.": IT RETURNS 'Lib.bitLen x'; the world is as it was. ('h0', 'h1': x is a uint64.) (LAID: no walk: one application.) -/
theorem Try.bits_Len64 (x : Int) (w : World) (h0 : 0 ≤ x) (h1 : x ≤ 18446744073709551615) :
    Calls Try.prog 93 #[.int .u64 x] w fun e w' => e = .returned (.int .i64 (Lib.bitLen x.toNat)) ∧ w' = w := Any.bits_Len64 Try.lays129 x w h0 h1
def Try.lays190_ren : Go.Shelf.Ren := ⟨fun | 190 => 45 | 125 => 66 | 258 => 65 | 128 => 92 | 129 => 93 | 302 => 83 | 303 => 84 | 304 => 85 | 305 => 86 | 306 => 87 | 307 => 88 | 308 => 89 | 309 => 90 | 310 => 91 | 333 => 102 | 329 => 103 | 330 => 104 | 334 => 105 | 335 => 106 | 336 => 107 | 344 => 111 | n => n, fun | 31 => 47 | 9 => 9 | 3 => 3 | 46 => 82 | 0 => 0 | 51 => 113 | 53 => 61 | 4 => 4 | 183 => 106 | 182 => 105 | 131 => 48 | 5 => 5 | 218 => 118 | 222 => 122 | 228 => 128 | 229 => 129 | n => n, fun | n => n⟩
theorem Try.lays190 : Go.Proofs.Lays.n190 Try.prog Try.lays190_ren := {
  mixed := by kernel_rfl
  f125 := Try.func66.trans (congrArg some (by kernel_rfl))
  f128 := Try.func92.trans (congrArg some (by kernel_rfl))
  f129 := Try.func93.trans (congrArg some (by kernel_rfl))
  f190 := Try.func45.trans (congrArg some (by kernel_rfl))
  f258 := Try.func65.trans (congrArg some (by kernel_rfl))
  f302 := Try.func83.trans (congrArg some (by kernel_rfl))
  f303 := Try.func84.trans (congrArg some (by kernel_rfl))
  f304 := Try.func85.trans (congrArg some (by kernel_rfl))
  f305 := Try.func86.trans (congrArg some (by kernel_rfl))
  f306 := Try.func87.trans (congrArg some (by kernel_rfl))
  f307 := Try.func88.trans (congrArg some (by kernel_rfl))
  f308 := Try.func89.trans (congrArg some (by kernel_rfl))
  f309 := Try.func90.trans (congrArg some (by kernel_rfl))
  f310 := Try.func91.trans (congrArg some (by kernel_rfl))
  f329 := Try.func103.trans (congrArg some (by kernel_rfl))
  f330 := Try.func104.trans (congrArg some (by kernel_rfl))
  f333 := Try.func102.trans (congrArg some (by kernel_rfl))
  f334 := Try.func105.trans (congrArg some (by kernel_rfl))
  f335 := Try.func106.trans (congrArg some (by kernel_rfl))
  f336 := Try.func107.trans (congrArg some (by kernel_rfl))
  f344 := Try.func111.trans (congrArg some (by kernel_rfl))
  t0 := Try.underlying0
  a0 := Try.isAgg0
  z0 := Try.sizeOf0
  v0 := Try.zeroValue0
  t3 := Try.underlying3
  a3 := Try.isAgg3
  z3 := Try.sizeOf3
  v3 := Try.zeroValue3
  t4 := Try.underlying4
  a4 := Try.isAgg4
  z4 := Try.sizeOf4
  v4 := Try.zeroValue4
  t5 := Try.underlying5
  a5 := Try.isAgg5
  z5 := Try.sizeOf5
  v5 := Try.zeroValue5
  t9 := Try.underlying9
  a9 := Try.isAgg9
  z9 := Try.sizeOf9
  v9 := Try.zeroValue9
  t31 := Try.underlying47
  a31 := Try.isAgg47
  z31 := Try.sizeOf47
  v31 := Try.zeroValue47
  t46 := Try.underlying82
  a46 := Try.isAgg82
  z46 := Try.sizeOf82
  v46 := Try.zeroValue82
  t51 := Try.underlying113
  a51 := Try.isAgg113
  z51 := Try.sizeOf113
  v51 := Try.zeroValue113
  t53 := Try.underlying61
  a53 := Try.isAgg61
  z53 := Try.sizeOf61
  v53 := Try.zeroValue61
  t131 := Try.underlying48
  a131 := Try.isAgg48
  z131 := Try.sizeOf48
  v131 := Try.zeroValue48
  t182 := Try.underlying105
  a182 := Try.isAgg105
  z182 := Try.sizeOf105
  v182 := Try.zeroValue105
  t183 := Try.underlying106
  a183 := Try.isAgg106
  z183 := Try.sizeOf106
  v183 := Try.zeroValue106
  t218 := Try.underlying118
  a218 := Try.isAgg118
  z218 := Try.sizeOf118
  v218 := Try.zeroValue118
  t222 := Try.underlying122
  a222 := Try.isAgg122
  z222 := Try.sizeOf122
  v222 := Try.zeroValue122
  t228 := Try.underlying128
  a228 := Try.isAgg128
  z228 := Try.sizeOf128
  v228 := Try.zeroValue128
  t229 := Try.underlying129
  a229 := Try.isAgg129
  z229 := Try.sizeOf129
  v229 := Try.zeroValue129 }
open Go.Sort Go.RowKit in
theorem Try.slices_Sort_string (blk off cap : Nat) (ss : List (List UInt8)) (w : World) (hH : Holds encStr w blk off ss.toArray) (hblk : blk < w.heap.size) (hsz : ss.length < 4611686018427387904) :
    Calls Try.prog 45 #[.slice (some ⟨blk, off, none⟩) ss.length cap] w fun e w' =>
      e = .returned (.tuple #[]) ∧ ∃ n os, w' = grow (putRow encStr (Sort.ahead w n) blk off (ss.mergeSort fun x y => decide (x ≤ y)).toArray) os := Any.slices_Sort_string Try.lays190 blk off cap ss w hH hblk hsz
def Try.laysNm216_ren : Go.Shelf.Ren := ⟨fun | 16 => 44 | n => n, fun | 24 => 47 | 9 => 9 | 4 => 4 | n => n, fun | n => n⟩
theorem Try.laysNm216 : Go.Proofs.Lays2.n16 Try.prog Try.laysNm216_ren := {
  mixed := by kernel_rfl
  f16 := Try.func44.trans (congrArg some (by kernel_rfl))
  t4 := Try.underlying4
  a4 := Try.isAgg4
  z4 := Try.sizeOf4
  v4 := Try.zeroValue4
  t9 := Try.underlying9
  a9 := Try.isAgg9
  z9 := Try.sizeOf9
  v9 := Try.zeroValue9
  t24 := Try.underlying47
  a24 := Try.isAgg47
  z24 := Try.sizeOf47
  v24 := Try.zeroValue47
  i9 := by kernel_rfl }
open Go.RowKit Go.Lib in
/-- slices.Clone at []string: "Clone returns a copy of the slice. The elements are copied using assignment, so this is a shallow clone. The result may have additional unused capacity. The result preserves the nilness of s.": OF A SLICE THAT IS NOT nil IT RETURNS A SLICE THAT IS NOT nil, OF THE SAME ELEMENTS, IN MEMORY OF THE CALL's OWN: in the how-to's words (6f): 'w'.ownsRow B e 1 v' n cells': v' begins at the head of a row among the blocks from B on (B: the heap's size at the call), not frozen, whose first cells are the elements · 'Below B w w'': below B all is as it was. The capacity is whatever the run-time gives. 'zs': what the cells behind the slice's address hold; 'zs.take n': its elements. (LAID: no walk: one application.) -/
theorem Try.slices_Clone_string (b off n c : Nat) (zs : List ByteArray) (w : World) (hz : n ≤ zs.length) (hbig : n * 16 ≤ 140737488355328) (hc : ∀ j, j < zs.length → w.cell? ⟨b, off + j, none⟩ = some (.string (zs.getD j ByteArray.empty))) :
    Calls Try.prog 44 #[.slice (some ⟨b, off, none⟩) n c] w fun e w' => ∃ v', e = .returned v' ∧ w'.ownsRow w.heap.size 9 1 v' n ((zs.take n).map (Value.string)) ∧ v' ≠ .slice none 0 0 ∧ Below w.heap.size w w' := Any.slices_Clone_string Try.laysNm216 b off n c zs w hz hbig hc
open Go.RowKit Go.Lib in
/-- The same at nil: nil comes back; the world is as it was. (LAID: no walk: one application.) -/
theorem Try.slices_Clone_string_nil (n c : Nat) (w : World) :
    Calls Try.prog 44 #[.slice none n c] w fun e w' => e = .returned (.slice none 0 0) ∧ w' = w := Any.slices_Clone_string_nil Try.laysNm216 n c w
open Go.RowKit Go.Lib in
/-- The same at a slice of length 0 that is not nil, WHATEVER ITS ADDRESS (no cell is asked for): a slice that is not nil and owns nothing comes back. (LAID: no walk: one application.) -/
theorem Try.slices_Clone_string_zero (a : Addr) (c : Nat) (w : World) :
    Calls Try.prog 44 #[.slice (some a) 0 c] w fun e w' => ∃ v', e = .returned v' ∧ w'.ownsRow w.heap.size 9 1 v' 0 [] ∧ v' ≠ .slice none 0 0 ∧ Below w.heap.size w w' := Any.slices_Clone_string_zero Try.laysNm216 a c w
def Try.lays194_ren : Go.Shelf.Ren := ⟨fun | 194 => 46 | n => n, fun | 31 => 47 | 9 => 9 | 3 => 3 | 4 => 4 | 0 => 0 | n => n, fun | n => n⟩
theorem Try.lays194 : Go.Proofs.Lays.n194 Try.prog Try.lays194_ren := {
  mixed := by kernel_rfl
  f194 := Try.func46.trans (congrArg some (by kernel_rfl))
  t0 := Try.underlying0
  a0 := Try.isAgg0
  z0 := Try.sizeOf0
  v0 := Try.zeroValue0
  t3 := Try.underlying3
  a3 := Try.isAgg3
  z3 := Try.sizeOf3
  v3 := Try.zeroValue3
  t4 := Try.underlying4
  a4 := Try.isAgg4
  z4 := Try.sizeOf4
  v4 := Try.zeroValue4
  t9 := Try.underlying9
  a9 := Try.isAgg9
  z9 := Try.sizeOf9
  v9 := Try.zeroValue9
  t31 := Try.underlying47
  a31 := Try.isAgg47
  z31 := Try.sizeOf47
  v31 := Try.zeroValue47 }
open Go.RowKit Go.Lib Go.Sort in
/-- slices.Compact at []string, over an array: the library's two loops are walked. (LAID: no walk: one application.) -/
theorem Try.slices_Compact_string_arr (blk off cap : Nat) (d : Array (List UInt8)) (w : World) (hH : Holds encStr w blk off d) (hsz : d.size ≤ 9223372036854775807) (hcap : d.size ≤ cap) :
    Calls Try.prog 46 #[.slice (some ⟨blk, off, none⟩) d.size cap] w fun e w' => e = .returned (.slice (some ⟨blk, off, none⟩) (compactUpTo d d.size).length cap) ∧ ∃ q, w' = putRow encStr (Sort.ahead w q) blk off (compactUpTo d d.size ++ List.replicate (d.size - (compactUpTo d d.size).length) []).toArray := Any.slices_Compact_string_arr Try.lays194 blk off cap d w hH hsz hcap
open Go.RowKit Go.Lib Go.Sort in
/-- slices.Compact at []string: "Compact replaces consecutive runs of equal elements with a single copy. This is like the uniq command found on Unix. Compact modifies the contents of the slice s and returns the modified slice, which may have a smaller length. Compact zeroes the elements between the new length and the original length. The result preserves the nilness of s.": IT RETURNS THE SLICE CUT TO 'Lib.compact zs'; ITS CELLS HOLD 'Lib.compact zs', THEN ZERO VALUES up to the old length; all else is as it was, but for the count of draws. IN THE WORDS OF slices.Sort's CONTRACT ('Holds', 'putRow'): so the everyday 'slices.Sort(xs); xs = slices.Compact(xs)' goes from the one contract to the other. It asks 'zs.length ≤ cap' (every slice's: the reslicing 's[:k]' looks at it). Length 0, nil: '.._empty'. (LAID: no walk: one application.) -/
theorem Try.slices_Compact_string (blk off cap : Nat) (zs : List (List UInt8)) (w : World) (hH : Holds encStr w blk off zs.toArray) (hsz : zs.length ≤ 9223372036854775807) (hcap : zs.length ≤ cap) :
    Calls Try.prog 46 #[.slice (some ⟨blk, off, none⟩) zs.length cap] w fun e w' => e = .returned (.slice (some ⟨blk, off, none⟩) (Lib.compact zs).length cap) ∧ ∃ q, w' = putRow encStr (Sort.ahead w q) blk off (Lib.compact zs ++ List.replicate (zs.length - (Lib.compact zs).length) []).toArray := Any.slices_Compact_string Try.lays194 blk off cap zs w hH hsz hcap
open Go.RowKit Go.Lib Go.Sort in
/-- The same at a slice of length 0, a nil one too: it comes back as it is. (LAID: no walk: one application.) -/
theorem Try.slices_Compact_string_empty (a : Option Addr) (cap : Nat) (w : World) :
    Calls Try.prog 46 #[.slice a 0 cap] w fun e w' => e = .returned (.slice a 0 cap) ∧ w' = w := Any.slices_Compact_string_empty Try.lays194 a cap w
def Try.laysNm237_ren : Go.Shelf.Ren := ⟨fun | 37 => 98 | n => n, fun | 3 => 3 | 4 => 4 | n => n, fun | n => n⟩
theorem Try.laysNm237 : Go.Proofs.Lays2.n37 Try.prog Try.laysNm237_ren := {
  mixed := by kernel_rfl
  f37 := Try.func98.trans (congrArg some (by kernel_rfl))
  t3 := Try.underlying3
  a3 := Try.isAgg3
  z3 := Try.sizeOf3
  v3 := Try.zeroValue3
  t4 := Try.underlying4
  a4 := Try.isAgg4
  z4 := Try.sizeOf4
  v4 := Try.zeroValue4 }
open Go.RowKit Go.Lib in
/-- cmp.isNaN[int]: 'x != x': false. (LAID: no walk: one application.) -/
theorem Try.cmp_isNaN_int2 (x : Int) (w : World) :
    Calls Try.prog 98 #[.int .i64 x] w fun e w' => e = .returned (.bool false) ∧ w' = w := Any.cmp_isNaN_int2 Try.laysNm237 x w
open Go.RowKit Go.Lib Go.Sort in
/-- slices.Compact at []string, of an argument. (LAID: no walk: one application.) -/
theorem Try.slices_Compact_string_cells (b off n c : Nat) (Sx : Nat → ByteArray) (w : World) (hbig : n ≤ 9223372036854775807) (hcap : n ≤ c) (hc : ∀ i, i < n → w.cell? ⟨b, off + i, none⟩ = some (.string (Sx i))) (hf : ∀ j, j < n → w.frozen? ⟨b, off + j, none⟩ = false) :
    Calls Try.prog 46 #[.slice (some ⟨b, off, none⟩) n c] w fun e w' => e = .returned (.slice (some ⟨b, off, none⟩) (Lib.compact (Lib.strsOf Sx n)).length c) ∧ ∃ q, w' = (w.drewN q).setCells b off ((Lib.compact (Lib.strsOf Sx n) ++ List.replicate (n - (Lib.compact (Lib.strsOf Sx n)).length) []).map encStr) := Any.slices_Compact_string_cells Try.lays194 b off n c Sx w hbig hcap hc hf
open Go.RowKit Go.Sort in
/-- .. and plain. (LAID: no walk: one application.) -/
theorem Try.slices_Sort_string_none (p : Option Addr) (cap : Nat) (w : World) :
    Calls Try.prog 45 #[.slice p 0 cap] w fun e w' => e = .returned (.tuple #[]) ∧ w' = w := Any.slices_Sort_string_none Try.lays190 p cap w
def Try.laysSlH6_f110_ren : Go.Shelf.Ren := ⟨fun | 6 => 110 | n => n, fun | 22 => 22 | 23 => 3 | 25 => 81 | 3 => 3 | 0 => 0 | 4 => 4 | n => n, fun | n => n⟩
theorem Try.laysSlH6_f110 : Go.Proofs.SlLaysH.n6 Try.prog Try.laysSlH6_f110_ren := {
  mixed := by kernel_rfl
  f6 := ⟨Try.f110.name, by decide, Try.func110.trans (congrArg some (by kernel_rfl))⟩
  t0 := Try.underlying0
  a0 := Try.isAgg0
  z0 := Try.sizeOf0
  v0 := Try.zeroValue0
  t3 := Try.underlying3
  a3 := Try.isAgg3
  z3 := Try.sizeOf3
  v3 := Try.zeroValue3
  t4 := Try.underlying4
  a4 := Try.isAgg4
  z4 := Try.sizeOf4
  v4 := Try.zeroValue4
  t22 := Try.underlying22
  a22 := Try.isAgg22
  z22 := Try.sizeOf22
  v22 := Try.zeroValue22
  a23 := Try.isAgg3
  z23 := Try.sizeOf3
  t25 := Try.underlying81
  a25 := Try.isAgg81
  z25 := Try.sizeOf81
  v25 := Try.zeroValue81 }
open Go.RowKit Go.Lib in
/-- slices.IndexFunc: "IndexFunc returns the first index i satisfying f(s[i]), or -1 if none do." (LAID AT THE INSTANCE 'slices.IndexFunc[[]int,int]': no walk: one application.) -/
theorem Try.slices_IndexFunc {α : Type} [Inhabited α] (enc : α → Value) (p : α → Bool) (g : Nat) (lb : Array Value) (eg : ∀ args w, (callFunc g args).run Try.prog w = .ok (.enter g args) w) (b off n c : Nat) (zs : List α) (w : World) (hp : PredAt Try.prog g lb enc p w) (hz : n ≤ zs.length) (hbig : n ≤ 9223372036854775807) (hc : ∀ j, j < zs.length → w.cell? ⟨b, off + j, none⟩ = some (enc zs[j]!)) :
    Calls Try.prog 110 #[.slice (some ⟨b, off, none⟩) n c, .func (.func g) #[] lb] w fun e w' => e = .returned (.int .i64 (Lib.idxBy (fun _ y => p y) (zs.take n) default)) ∧ ∃ q, w' = w.drewN q := AnyE.slices_IndexFunc Try.laysSlH6_f110 enc p g lb eg b off n c zs w hp hz hbig hc
open Go.RowKit Go.Lib in
/-- The same at a slice of length 0, a nil one too: the predicate is not called: nothing is asked of it. (LAID AT THE INSTANCE 'slices.IndexFunc[[]int,int]': no walk: one application.) -/
theorem Try.slices_IndexFunc_empty {α : Type} [Inhabited α] (a : Option Addr) (c : Nat) (fv : Value) (w : World) :
    Calls Try.prog 110 #[.slice a 0 c, fv] w fun e w' => e = .returned (.int .i64 (-1)) ∧ w' = w := AnyE.slices_IndexFunc_empty Try.laysSlH6_f110 a c fv w
def Try.laysSlH8_f99_ren : Go.Shelf.Ren := ⟨fun | 8 => 99 | 6 => 110 | n => n, fun | 22 => 22 | 23 => 3 | 25 => 81 | 4 => 4 | 3 => 3 | 0 => 0 | n => n, fun | n => n⟩
theorem Try.laysSlH8_f99 : Go.Proofs.SlLaysH.n8 Try.prog Try.laysSlH8_f99_ren := {
  mixed := by kernel_rfl
  f6 := ⟨Try.f110.name, by decide, Try.func110.trans (congrArg some (by kernel_rfl))⟩
  f8 := ⟨Try.f99.name, by decide, Try.func99.trans (congrArg some (by kernel_rfl))⟩
  t0 := Try.underlying0
  a0 := Try.isAgg0
  z0 := Try.sizeOf0
  v0 := Try.zeroValue0
  t3 := Try.underlying3
  a3 := Try.isAgg3
  z3 := Try.sizeOf3
  v3 := Try.zeroValue3
  t4 := Try.underlying4
  a4 := Try.isAgg4
  z4 := Try.sizeOf4
  v4 := Try.zeroValue4
  t22 := Try.underlying22
  a22 := Try.isAgg22
  z22 := Try.sizeOf22
  v22 := Try.zeroValue22
  a23 := Try.isAgg3
  z23 := Try.sizeOf3
  t25 := Try.underlying81
  a25 := Try.isAgg81
  z25 := Try.sizeOf81
  v25 := Try.zeroValue81 }
open Go.RowKit Go.Lib in
/-- slices.ContainsFunc: "ContainsFunc reports whether at least one element e of s satisfies f(e).": ITS CALLEE slices.IndexFunc IS MET BY ITS OWN CONTRACT. (LAID AT THE INSTANCE 'slices.ContainsFunc[[]int,int]': no walk: one application.) -/
theorem Try.slices_ContainsFunc {α : Type} [Inhabited α] (enc : α → Value) (p : α → Bool) (g : Nat) (lb : Array Value) (eg : ∀ args w, (callFunc g args).run Try.prog w = .ok (.enter g args) w) (b off n c : Nat) (zs : List α) (w : World) (hp : PredAt Try.prog g lb enc p w) (hz : n ≤ zs.length) (hbig : n ≤ 9223372036854775807) (hc : ∀ j, j < zs.length → w.cell? ⟨b, off + j, none⟩ = some (enc zs[j]!)) :
    Calls Try.prog 99 #[.slice (some ⟨b, off, none⟩) n c, .func (.func g) #[] lb] w fun e w' => e = .returned (.bool ((zs.take n).any p)) ∧ ∃ q, w' = w.drewN q := AnyE.slices_ContainsFunc Try.laysSlH8_f99 enc p g lb eg b off n c zs w hp hz hbig hc
open Go.RowKit Go.Lib in
/-- The same at a slice of length 0, a nil one too. (LAID AT THE INSTANCE 'slices.ContainsFunc[[]int,int]': no walk: one application.) -/
theorem Try.slices_ContainsFunc_empty {α : Type} [Inhabited α] (a : Option Addr) (c : Nat) (fv : Value) (w : World) :
    Calls Try.prog 99 #[.slice a 0 c, fv] w fun e w' => e = .returned (.bool false) ∧ w' = w := AnyE.slices_ContainsFunc_empty Try.laysSlH8_f99 a c fv w
end Go.Proofs

/- The walks of layer 25: check. -/
namespace Go.Proofs.Ytbdkoagagcemcaa.Pp
open Go.RowKit Go.Maps

/-- A number that an int holds. -/
def nx (x : Int) : Int := if -9223372036854775808 ≤ x ∧ x ≤ 9223372036854775807 then x else 0
theorem nx_in (x : Int) : I64 (nx x) := by
  unfold nx I64
  split
  · assumption
  · omega
theorem nx_same {x : Int} (h : I64 x) : nx x = x := if_pos h
theorem any_nx (fs : List Int) : ∀ (rs : List Int), (∀ x ∈ rs, I64 x) → (rs.any fun x => decide (0 < Po.at fs (nx x))) = rs.any fun x => decide (0 < Po.at fs x)
  | [], _ => rfl
  | r :: rs, h => by rw [List.any_cons, List.any_cons, any_nx fs rs (fun x hx => h x (List.mem_cons_of_mem _ hx)), nx_same (h r (List.mem_cons_self ..))]

set_option maxHeartbeats 2000000 in
theorem chk1_at (fs : List Int) (b B : Nat) (w : World) (hP : PMap w b fs) (hB : B < w.heap.size) (hc : w.cell? ⟨B, 0, none⟩ = some (.map (some b))) :
    PredAt Try.prog 100 #[.pointer (some ⟨B, 0, none⟩)] (fun x : Int => .int .i64 (nx x)) (fun x => decide (0 < Po.at fs (nx x))) w := fun W x hb => by
  obtain ⟨D, hO, hM, _⟩ := hP.keep hb
  have hl := look_run hO hM (nx_in x)
  have hcell : W.cell? ⟨B, 0, none⟩ = some (.map (some b)) := (hb.cell (p := ⟨B, 0, none⟩) hB).trans hc
  show Calls Try.prog 100 #[.int .i64 (nx x), .pointer (some ⟨B, 0, none⟩)] W _
  clear hO hM hb hc hP
  go_enter Try.func100, Try.ntmps100
  go_wp2
  go_ret
  exact ⟨rfl, 0, rfl⟩

theorem contains_any (A : Option Addr) (c : Nat) (fs rs : List Int) (b B : Nat) (w : World) (hx : Ints w A c rs) (hI : ∀ x ∈ rs, I64 x) (hn : rs.length ≤ 1000000) (hP : PMap w b fs) (hB : B < w.heap.size) (hc : w.cell? ⟨B, 0, none⟩ = some (.map (some b))) :
    Calls Try.prog 99 #[.slice A rs.length c, .func (.func 100) #[] #[.pointer (some ⟨B, 0, none⟩)]] w fun e w' => e = .returned (.bool (rs.any fun x => decide (0 < Po.at fs x))) ∧ Below w.heap.size w w' := by
  by_cases h0 : rs.length = 0
  · obtain rfl := List.eq_nil_of_length_eq_zero h0
    refine Calls.mono (AnyE.slices_ContainsFunc_empty Try.conA A c (.func (.func 100) #[] #[.pointer (some ⟨B, 0, none⟩)]) w) ?_
    rintro e w' ⟨rfl, rfl⟩
    exact ⟨rfl, Below.refl _ _⟩
  · obtain ⟨g, o, rfl, hg, hcell⟩ := hx.2 (by omega)
    have hget : ∀ j, j < rs.length → rs[j]? = some rs[j]! := fun j hj => by rw [List.getElem!_eq_getElem?_getD, List.getElem?_eq_getElem hj]; rfl
    have eg : ∀ args w, (callFunc 100 args).run Try.prog w = .ok (.enter 100 args) w := enters_of Try.func100 (by kernel_rfl) rfl
    have hcon := AnyE.slices_ContainsFunc Try.conA (fun x : Int => .int .i64 (nx x)) (fun x => decide (0 < Po.at fs (nx x))) 100 #[.pointer (some ⟨B, 0, none⟩)] eg g o rs.length c rs w (chk1_at fs b B w hP hB hc) (Nat.le_refl _) (by omega)
      (fun j hj => by
        have := hcell j _ (hget j hj)
        rw [this, nx_same (hI _ (List.mem_of_getElem? (hget j hj)))])
    refine hcon.mono ?_
    rintro e w' ⟨rfl, q, rfl⟩
    refine ⟨?_, below_drewN' (Below.refl _ _) q⟩
    rw [List.take_length]
    rw [any_nx fs rs hI]

def Po.bad (fs ts : List Int) : Bool := ts.any fun t => decide (t < 0) || decide ((fs.length : Int) < t)
def Po.twice (fs rs : List Int) : Bool := !decide fs.Nodup || rs.any fun x => decide (0 < Po.at fs x)
/-- Why a row is not told, or nought. -/
def Po.err (fs ts rs : List Int) : Int := if Po.bad fs ts then 5 else if Po.twice fs rs then 10 else if rs.length < ts.count 0 then 6 else if ts.count 0 < rs.length then 2 else 0

set_option maxHeartbeats 4000000 in
set_option maxRecDepth 100000 in
theorem check_any (A B C : Option Addr) (c d k : Nat) (fs ts rs : List Int) (w : World) (hx : Ints w A c fs) (hy : Ints w B d ts) (hz : Ints w C k rs) (hI : ∀ x ∈ fs, I64 x) (hJ : ∀ x ∈ rs, I64 x)
    (hn : fs.length ≤ 100000) (hm : ts.length ≤ 100000) (hl : rs.length ≤ 100000) :
    Calls Try.prog 81 #[.slice A fs.length c, .slice B ts.length d, .slice C rs.length k] w fun e w' => e = .returned (.int .i64 (Po.err fs ts rs)) ∧ Below w.heap.size w w' := by
  have HY := Lib.hid hy
  have HZ := Lib.hid hz
  have HJ := Lib.hid hJ
  have HPL := Lib.hid (places_any A c fs w hx hI (by omega))
  clear hx hy hz hI hJ
  go_enter Try.func81, Try.ntmps81
  go_wp2_with fail
  refine HPL.out.mono ?_
  rintro e w0 ⟨rfl, hP, hb0⟩
  go_wp2_with fail
  obtain ⟨wa, hwa⟩ : ∃ wa : World, wa = w0.alloc (.cells #[.map (some w.heap.size)] 92) := ⟨_, rfl⟩
  have hcell : wa.cell? ⟨w0.heap.size, 0, none⟩ = some (.map (some w.heap.size)) := by rw [hwa]; simp
  have hz1 : w0.heap.size < wa.heap.size := by rw [hwa]; simp
  have hb1 : Below w0.heap.size w0 wa := by rw [hwa]; exact (Below.refl _ _).alloc (Nat.le_refl _) _
  have HB := Lib.hid (Below.after' hb0 hb1 (Nat.le_refl _))
  have HP := Lib.hid (hP.keep hb1)
  rw [← hwa]
  have HYa := Lib.hid (HY.out.grow HB.out)
  have HZa := Lib.hid (HZ.out.grow HB.out)
  clear hwa hb0 hb1 hP HPL HY HZ
  go_loop [8, 16] (fun n u => ∃ i : Nat, i ≤ ts.length ∧ u = .int .i64 i ∧ n = .int .i64 ((ts.take i).count 0 : Nat) ∧ Po.bad fs (ts.take i) = false) (fun _ u => ts.length - (intOf u).toNat)
  case atStart => exact ⟨0, Nat.zero_le _, rfl, rfl, rfl⟩
  case round =>
    obtain ⟨i, hil, rfl, rfl, hbad⟩ := hrel
    have HN := Lib.hid hbad
    have hcl : (ts.take i).count 0 ≤ 1000000 := Nat.le_trans List.count_le_length (by rw [List.length_take]; omega)
    by_cases h1 : i < ts.length
    · obtain ⟨g, o, x, rfl, hg, hxi, hct⟩ := HYa.out.at_ h1
      have htk := Lib.hid (take_snocI ts i x hxi)
      have hmem := Lib.hid (List.mem_of_getElem? hxi)
      have hs := Lib.hid (show (ts.take (i + 1)).count 0 = (ts.take i).count 0 + if x = 0 then 1 else 0 by rw [htk.out, count_snoc])
      have hbd := Lib.hid (show Po.bad fs (ts.take (i + 1)) = (decide (x < 0) || decide ((fs.length : Int) < x)) by
        rw [htk.out]; unfold Po.bad; rw [List.any_append]
        have := HN.out; unfold Po.bad at this; rw [this]; simp)
      clear hxi hbad
      by_cases hneg : x < 0
      · have q : decide (x < 0) = true := by simp [hneg]
        have hfin := Lib.hid (show Po.err fs ts rs = 5 from if_pos (List.any_eq_true.2 ⟨x, hmem.out, by simp [hneg]⟩))
        clear hneg
        go_wp2
        go_ret
        exact ⟨by rw [hfin.out]; rfl, HB.out⟩
      · have q : decide (x < 0) = false := by simp [hneg]
        by_cases hbig : (fs.length : Int) < x
        · have q2 : decide ((fs.length : Int) < x) = true := by simp [hbig]
          have hfin := Lib.hid (show Po.err fs ts rs = 5 from if_pos (List.any_eq_true.2 ⟨x, hmem.out, by simp [hbig]⟩))
          clear hneg hbig
          go_wp2
          go_ret
          exact ⟨by rw [hfin.out]; rfl, HB.out⟩
        · have q2 : decide ((fs.length : Int) < x) = false := by simp [hbig]
          have hnb := Lib.hid (hbd.out.trans (by rw [q, q2, Bool.or_false]))
          clear hneg hbig
          by_cases hx0 : x = 0
          · have q3 : (x == 0) = true := by simp [hx0]
            have hs2 := Lib.hid (hs.out.trans (by rw [if_pos hx0]))
            clear hx0
            go_wp2
            go_round
            case rel => exact ⟨i + 1, by omega, by go_num, by rw [hs2.out]; rfl, hnb.out⟩
            case measure => simp [intOf]; omega
          · have q3 : (x == 0) = false := by simp [hx0]
            have hs2 := Lib.hid (hs.out.trans (by rw [if_neg hx0, Nat.add_zero]))
            clear hx0
            go_wp2
            go_round
            case rel => exact ⟨i + 1, by omega, by go_num, by rw [hs2.out], hnb.out⟩
            case measure => simp [intOf]; omega
    · have hfin : ts.take i = ts := List.take_of_length_le (by omega)
      rw [hfin] at hbad hcl
      rw [hfin]
      have HE := Lib.hid (show Po.err fs ts rs = if Po.twice fs rs then 10 else if rs.length < ts.count 0 then 6 else if ts.count 0 < rs.length then 2 else 0 from if_neg (by rw [hbad]; simp))
      have HC := Lib.hid (contains_any C k fs rs w.heap.size w0.heap.size wa HZa.out HJ.out (by omega) HP.out hz1 hcell)
      obtain ⟨D, hO, hM, hD⟩ := HP.out
      have HO := Lib.hid hO
      have HD := Lib.hid hD
      have HNB := Lib.hid (HB.out)
      clear hfin hbad HN HYa hO hM hD
      by_cases hdl : Maps.size D < fs.length
      · have q : decide (Maps.size D < fs.length) = true := by simp [hdl]
        have hfin := Lib.hid (HE.out.trans (if_pos (by unfold Po.twice; rw [decide_eq_false (HD.out.1 hdl)]; rfl)))
        clear hdl
        go_wp2_with (at_len; refine wpList_len_own _ rfl _ _ rfl _ _ Try.underlying92 _ _ _ _ rfl HO.out ?_)
        go_ret
        exact ⟨by rw [hfin.out]; rfl, HB.out⟩
      · have q : decide (Maps.size D < fs.length) = false := by simp [hdl]
        have hnd := Lib.hid (show fs.Nodup from Classical.not_not.1 (fun h => hdl (HD.out.2 h)))
        clear hdl
        cases hany : rs.any (fun x => decide (0 < Po.at fs x)) with
        | true =>
          have hfin := Lib.hid (HE.out.trans (if_pos (by unfold Po.twice; rw [hany, Bool.or_true])))
          rw [hany] at HC
          clear hany
          go_wp2_with (at_len; refine wpList_len_own _ rfl _ _ rfl _ _ Try.underlying92 _ _ _ _ rfl HO.out ?_)
          refine HC.out.mono ?_
          rintro e w1 ⟨rfl, hb1⟩
          have HB1 := Lib.hid (Below.after' HB.out hb1 (by have := HB.out.size; omega))
          clear hb1
          go_wp2
          go_ret
          exact ⟨by rw [hfin.out]; rfl, HB1.out⟩
        | false =>
          have hfin := Lib.hid (HE.out.trans (if_neg (by unfold Po.twice; rw [hany, Bool.or_false, decide_eq_true hnd.out]; simp)))
          rw [hany] at HC
          clear hany
          go_wp2_with (at_len; refine wpList_len_own _ rfl _ _ rfl _ _ Try.underlying92 _ _ _ _ rfl HO.out ?_)
          refine HC.out.mono ?_
          rintro e w1 ⟨rfl, hb1⟩
          have HB1 := Lib.hid (Below.after' HB.out hb1 (by have := HB.out.size; omega))
          clear hb1
          by_cases hlt : rs.length < ts.count 0
          · have q3 : decide (rs.length < ts.count 0) = true := by simp [hlt]
            have hfin2 := Lib.hid (hfin.out.trans (if_pos hlt))
            clear hlt
            go_wp2
            go_ret
            exact ⟨by rw [hfin2.out]; rfl, HB1.out⟩
          · have q3 : decide (rs.length < ts.count 0) = false := by simp [hlt]
            by_cases hgt : ts.count 0 < rs.length
            · have q4 : decide (ts.count 0 < rs.length) = true := by simp [hgt]
              have hfin2 := Lib.hid (hfin.out.trans ((if_neg hlt).trans (if_pos hgt)))
              clear hlt hgt
              go_wp2
              go_ret
              exact ⟨by rw [hfin2.out]; rfl, HB1.out⟩
            · have q4 : decide (ts.count 0 < rs.length) = false := by simp [hgt]
              have hfin2 := Lib.hid (hfin.out.trans ((if_neg hlt).trans (if_neg hgt)))
              clear hlt hgt
              go_wp2
              go_ret
              exact ⟨by rw [hfin2.out]; rfl, HB1.out⟩
end Go.Proofs.Ytbdkoagagcemcaa.Pp
/- Layer 25 in plain words: which row is told. No program. -/
namespace Go.Proofs.Ytbdkoagagcemcaa.Pp
open Go.RowKit

/-- The number at a place of the row. -/
def Po.el (fs ts rs : List Int) (i : Nat) : Int := if 0 < ts.getD i 0 then fs.getD (ts.getD i 0 - 1).toNat 0 else rs.getD ((ts.take i).count 0) 0
def Po.rowN (fs ts rs : List Int) (n : Nat) : List Int := (List.range n).map (Po.el fs ts rs)
theorem Po.rowN_length (fs ts rs : List Int) (n : Nat) : (Po.rowN fs ts rs n).length = n := by unfold Po.rowN; simp
theorem Po.rowN_succ (fs ts rs : List Int) (n : Nat) : Po.rowN fs ts rs (n + 1) = Po.rowN fs ts rs n ++ [Po.el fs ts rs n] := by
  unfold Po.rowN
  rw [List.range_succ, List.map_append]
  rfl
theorem Po.rowN_get (fs ts rs : List Int) (n j : Nat) (x : Int) (h : (Po.rowN fs ts rs n)[j]? = some x) : j < n ∧ x = Po.el fs ts rs j := by
  unfold Po.rowN at h
  rw [List.getElem?_map] at h
  cases hr : (List.range n)[j]? with
  | none => rw [hr] at h; simp at h
  | some y =>
    rw [hr] at h
    obtain ⟨h1, h2⟩ := List.getElem?_eq_some_iff.1 hr
    simp at h1 h2 h
    exact ⟨h1, by rw [← h, h2]⟩
/-- What is told: the row, or nothing. -/
def Po.out (fs ts rs : List Int) : List Int := if Po.err fs ts rs = 0 then Po.rowN fs ts rs ts.length else []
/-- No reason: so each token is a place or nought, and there are just enough numbers. -/
theorem Po.err_zero {fs ts rs : List Int} (h : Po.err fs ts rs = 0) : Po.bad fs ts = false ∧ Po.twice fs rs = false ∧ ts.count 0 = rs.length := by
  unfold Po.err at h
  cases hb : Po.bad fs ts with
  | true => rw [hb] at h; simp at h
  | false =>
    cases ht : Po.twice fs rs with
    | true => rw [hb, ht] at h; simp at h
    | false =>
      rw [hb, ht] at h
      refine ⟨rfl, rfl, ?_⟩
      simp only [Bool.false_eq_true, if_false] at h
      split at h
      · simp at h
      · split at h
        · simp at h
        · omega
theorem Po.bad_at {fs ts : List Int} (h : Po.bad fs ts = false) {i : Nat} {x : Int} (hx : ts[i]? = some x) : 0 ≤ x ∧ x ≤ fs.length := by
  have := List.any_eq_false.1 h x (List.mem_of_getElem? hx)
  simp at this
  omega
theorem getD_of {α : Type} {l : List α} {i : Nat} {x d : α} (h : l[i]? = some x) : l.getD i d = x := by simp [List.getD, h]
theorem Po.el_place {fs ts rs : List Int} {i m : Nat} {y : Int} (hx : ts[i]? = some ((m + 1 : Nat) : Int)) (hy : fs[m]? = some y) : Po.el fs ts rs i = y := by
  unfold Po.el
  rw [getD_of hx, if_pos (by omega)]
  have : (((m + 1 : Nat) : Int) - 1).toNat = m := by omega
  rw [this, getD_of hy]
theorem Po.el_rest {fs ts rs : List Int} {i : Nat} {y : Int} (hx : ts[i]? = some 0) (hy : rs[(ts.take i).count 0]? = some y) : Po.el fs ts rs i = y := by
  unfold Po.el
  rw [getD_of hx, if_neg (by omega), getD_of hy]
/-- A nought ahead: so a number is left. -/
theorem Po.room {ts : List Int} {i : Nat} (hx : ts[i]? = some 0) : (ts.take i).count 0 < ts.count 0 := by
  have h1 := take_snocI ts i 0 hx
  have h2 : (ts.take (i + 1)).count 0 ≤ ts.count 0 := (List.take_sublist _ _).count_le _
  rw [h1, count_snoc, if_pos rfl] at h2
  omega
theorem Po.count_step {ts : List Int} {i : Nat} {x : Int} (hx : ts[i]? = some x) : (ts.take (i + 1)).count 0 = (ts.take i).count 0 + if x = 0 then 1 else 0 := by
  rw [take_snocI ts i x hx, count_snoc]
theorem nodup_count : ∀ (l : List Int), l.Nodup ↔ ∀ a, l.count a ≤ 1
  | [] => by simp
  | x :: l => by
    rw [List.nodup_cons, nodup_count l]
    constructor
    · rintro ⟨h1, h2⟩ a
      rw [List.count_cons]
      by_cases e : x = a
      · subst e; rw [List.count_eq_zero_of_not_mem h1]; simp
      · simp [e]; exact h2 a
    · intro h
      refine ⟨fun hx => ?_, fun a => ?_⟩
      · have h1 := h x
        have h2 := List.count_pos_iff.2 hx
        rw [List.count_cons_self] at h1
        omega
      · have h1 := h a
        rw [List.count_cons] at h1
        omega
/-- The document's reasons are the program's. -/
theorem Po.twice_iff (fs rs : List Int) : Po.twice fs rs = true ↔ ∃ f ∈ fs, fs.count f > 1 ∨ rs.count f > 0 := by
  unfold Po.twice
  rw [Bool.or_eq_true, Bool.not_eq_true', decide_eq_false_iff_not, List.any_eq_true]
  constructor
  · rintro (h | ⟨x, hx, h⟩)
    · apply Classical.byContradiction
      intro hn
      refine h ((nodup_count fs).2 (fun a => ?_))
      by_cases ha : a ∈ fs
      · rcases Nat.lt_or_ge 1 (fs.count a) with h1 | h1
        · exact absurd ⟨a, ha, .inl h1⟩ hn
        · exact h1
      · rw [List.count_eq_zero_of_not_mem ha]; omega
    · have : x ∈ fs := Classical.not_not.1 (fun hn => by
        have := Po.at_zero.2 hn
        simp [this] at h)
      exact ⟨x, this, .inr (List.count_pos_iff.2 hx)⟩
  · rintro ⟨f, hf, h | h⟩
    · exact .inl (fun hn => by have := (nodup_count fs).1 hn f; omega)
    · refine .inr ⟨f, List.count_pos_iff.1 h, ?_⟩
      have : Po.at fs f ≠ 0 := fun h0 => Po.at_zero.1 h0 hf
      simp; omega
end Go.Proofs.Ytbdkoagagcemcaa.Pp
/- Layer 25 in plain words: the numbers that come most often. No program. -/
namespace Go.Proofs.Ytbdkoagagcemcaa.Pp
open Go.RowKit

/-- a stands ahead of b: it comes more often, or as often and is less. -/
def Po.bef (l : List Int) (a b : Int) : Prop := l.count b < l.count a ∨ (l.count a = l.count b ∧ a < b)
instance (l : List Int) (a b : Int) : Decidable (Po.bef l a b) := by unfold Po.bef; infer_instance
/-- No candidate. -/
def Po.no (l out : List Int) (v : Int) : Prop := l.count v < 2 ∨ 0 < out.count v
instance (l out : List Int) (v : Int) : Decidable (Po.no l out v) := by unfold Po.no; infer_instance
/-- One number more is looked at. -/
def Po.pick (l out : List Int) (acc : Option Int) (v : Int) : Option Int :=
  if Po.no l out v then acc else if ∃ b, acc = some b ∧ ¬ Po.bef l v b then acc else some v
def Po.next (l out : List Int) (xs : List Int) : Option Int := xs.foldl (Po.pick l out) none
theorem Po.next_snoc (l out xs : List Int) (v : Int) : Po.next l out (xs ++ [v]) = Po.pick l out (Po.next l out xs) v := by
  unfold Po.next; rw [List.foldl_append]; rfl
def Po.favs (l : List Int) : Nat → List Int
  | 0 => []
  | k + 1 => Po.favs l k ++ (Po.next l (Po.favs l k) l).toList
theorem Po.favs_succ (l : List Int) (k : Nat) : Po.favs l (k + 1) = Po.favs l k ++ (Po.next l (Po.favs l k) l).toList := rfl
theorem Po.favs_stay {l : List Int} {k : Nat} (h : Po.next l (Po.favs l k) l = none) : ∀ j, Po.favs l (k + j) = Po.favs l k
  | 0 => rfl
  | j + 1 => by rw [← Nat.add_assoc, Po.favs_succ, Po.favs_stay h j, h]; simp
theorem Po.bef_trans {l : List Int} {a b c : Int} (h : Po.bef l a b) (k : Po.bef l b c) : Po.bef l a c := by unfold Po.bef at *; omega
theorem Po.bef_asymm {l : List Int} {a b : Int} (h : Po.bef l a b) : ¬ Po.bef l b a := by unfold Po.bef at *; omega
theorem Po.bef_total {l : List Int} {a b : Int} (h : ¬ Po.bef l a b) : a = b ∨ Po.bef l b a := by unfold Po.bef at *; omega
theorem Po.bef_irrefl {l : List Int} {a : Int} : ¬ Po.bef l a a := by unfold Po.bef; omega
/-- What is picked. -/
def Po.Best (l out xs : List Int) : Option Int → Prop
  | none => ∀ v ∈ xs, Po.no l out v
  | some b => b ∈ xs ∧ ¬ Po.no l out b ∧ ∀ v ∈ xs, Po.no l out v ∨ v = b ∨ Po.bef l b v
theorem Po.best_step {l out xs : List Int} {r : Option Int} {v : Int} (h : Po.Best l out xs r) : Po.Best l out (xs ++ [v]) (Po.pick l out r v) := by
  unfold Po.pick
  by_cases hno : Po.no l out v
  · rw [if_pos hno]
    cases r with
    | none =>
      intro x hx
      rcases List.mem_append.1 hx with h1 | h1
      · exact h x h1
      · rw [List.mem_singleton] at h1; subst h1; exact hno
    | some b =>
      refine ⟨List.mem_append_left _ h.1, h.2.1, fun x hx => ?_⟩
      rcases List.mem_append.1 hx with h1 | h1
      · exact h.2.2 x h1
      · rw [List.mem_singleton] at h1; subst h1; exact .inl hno
  · rw [if_neg hno]
    cases r with
    | none =>
      rw [if_neg (by rintro ⟨b, hb, _⟩; cases hb)]
      refine ⟨by simp, hno, fun x hx => ?_⟩
      rcases List.mem_append.1 hx with h1 | h1
      · exact .inl (h x h1)
      · rw [List.mem_singleton] at h1; exact .inr (.inl h1)
    | some b =>
      by_cases hb : Po.bef l v b
      · rw [if_neg (by rintro ⟨c, hc, h2⟩; cases hc; exact h2 hb)]
        refine ⟨by simp, hno, fun x hx => ?_⟩
        rcases List.mem_append.1 hx with h1 | h1
        · rcases h.2.2 x h1 with h2 | rfl | h2
          · exact .inl h2
          · exact .inr (.inr hb)
          · exact .inr (.inr (Po.bef_trans hb h2))
        · rw [List.mem_singleton] at h1; exact .inr (.inl h1)
      · rw [if_pos ⟨b, rfl, hb⟩]
        refine ⟨List.mem_append_left _ h.1, h.2.1, fun x hx => ?_⟩
        rcases List.mem_append.1 hx with h1 | h1
        · exact h.2.2 x h1
        · rw [List.mem_singleton] at h1; subst h1
          rcases Po.bef_total hb with h2 | h2
          · exact .inr (.inl h2)
          · exact .inr (.inr h2)
theorem Po.best (l out : List Int) : ∀ (n : Nat) (xs : List Int), xs.length = n → Po.Best l out xs (Po.next l out xs)
  | 0, xs, h => by rw [List.eq_nil_of_length_eq_zero h]; intro v hv; simp at hv
  | n + 1, xs, h => by
    obtain ⟨ys, y, rfl⟩ : ∃ ys y, xs = ys ++ [y] := ⟨xs.dropLast, xs.getLast (by intro e; rw [e] at h; simp at h), (List.dropLast_concat_getLast _).symm⟩
    rw [Po.next_snoc]
    exact Po.best_step (Po.best l out n ys (by simp at h; exact h))
/-- The favorites, all of them, in their order. -/
def Po.Is (l S : List Int) : Prop := S.Pairwise (Po.bef l) ∧ ∀ v, v ∈ S ↔ 2 ≤ l.count v
theorem Po.favs_take {l S : List Int} (h : Po.Is l S) : ∀ k, Po.favs l k = S.take k
  | 0 => rfl
  | k + 1 => by
    have ih := Po.favs_take h k
    have hb := Po.best l (Po.favs l k) l.length l rfl
    rw [Po.favs_succ]
    rw [ih] at hb ⊢
    by_cases hk : k < S.length
    · have hs : S[k]? = some S[k] := List.getElem?_eq_getElem hk
      have htk := take_snocI S k _ hs
      have hdr := (List.drop_eq_getElem_cons hk)
      have hsplit : S = S.take k ++ S[k] :: S.drop (k + 1) := by rw [← hdr, List.take_append_drop]
      have hp := h.1
      rw [hsplit, List.pairwise_append] at hp
      have hp2 := List.pairwise_cons.1 hp.2.1
      have hin : 2 ≤ l.count S[k] := (h.2 _).1 (List.getElem_mem hk)
      have hnot : (S.take k).count S[k] = 0 := List.count_eq_zero_of_not_mem (fun hm => Po.bef_irrefl (hp.2.2 _ hm _ (List.mem_cons_self ..)))
      have hno : ¬ Po.no l (S.take k) S[k] := by unfold Po.no; omega
      have hml : S[k] ∈ l := List.count_pos_iff.1 (by omega)
      cases hn : Po.next l (S.take k) l with
      | none => rw [hn] at hb; exact absurd (hb _ hml) hno
      | some b =>
        rw [hn] at hb
        obtain ⟨h1, h2, h3⟩ := hb
        have hbS : b ∈ S := (h.2 b).2 (by unfold Po.no at h2; omega)
        have hbn : b ∉ S.take k := fun hm => h2 (.inr (List.count_pos_iff.2 hm))
        have e : b = S[k] := by
          rcases h3 _ hml with h4 | h4 | h4
          · exact absurd h4 hno
          · exact h4.symm
          · rw [hsplit] at hbS
            rcases List.mem_append.1 hbS with h5 | h5
            · exact absurd h5 hbn
            · rcases List.mem_cons.1 h5 with h6 | h6
              · exact h6
              · exact absurd h4 (Po.bef_asymm (hp2.1 b h6))
        rw [htk, e]; rfl
    · have e1 : S.take k = S := List.take_of_length_le (by omega)
      have e2 : S.take (k + 1) = S := List.take_of_length_le (by omega)
      rw [e1] at hb
      rw [e1, e2]
      cases hn : Po.next l S l with
      | none => simp
      | some b =>
        rw [hn] at hb
        have hbS : b ∈ S := (h.2 b).2 (by have := hb.2.1; unfold Po.no at this; omega)
        exact absurd (.inr (List.count_pos_iff.2 hbS)) hb.2.1
/-- What is picked comes at least twice, and is new. -/
theorem Po.favs_facts (l : List Int) : ∀ k, (Po.favs l k).Nodup ∧ ∀ v ∈ Po.favs l k, 2 ≤ l.count v
  | 0 => ⟨List.nodup_nil, fun v hv => by simp [Po.favs] at hv⟩
  | k + 1 => by
    obtain ⟨h1, h2⟩ := Po.favs_facts l k
    have hb := Po.best l (Po.favs l k) l.length l rfl
    rw [Po.favs_succ]
    cases hn : Po.next l (Po.favs l k) l with
    | none => simpa using ⟨h1, h2⟩
    | some b =>
      rw [hn] at hb
      have hb2 := hb.2.1
      unfold Po.no at hb2
      rw [show (some b).toList = [b] from rfl, nodup_snoc]
      refine ⟨⟨h1, fun hm => hb2 (.inr (List.count_pos_iff.2 hm))⟩, fun v hv => ?_⟩
      rcases List.mem_append.1 hv with h3 | h3
      · exact h2 v h3
      · rw [List.mem_singleton] at h3; subst h3; omega
theorem length_le_sub : ∀ (xs l : List Int), xs.Nodup → (∀ v ∈ xs, v ∈ l) → xs.length ≤ l.length
  | [], _, _, _ => Nat.zero_le _
  | x :: xs, l, hn, hm => by
    rw [List.nodup_cons] at hn
    have hx := hm x (List.mem_cons_self ..)
    have := length_le_sub xs (l.erase x) hn.2 (fun v hv => (List.mem_erase_of_ne (show v ≠ x from fun e => hn.1 (by rw [← e]; exact hv))).2 (hm v (List.mem_cons_of_mem _ hv)))
    rw [List.length_erase_of_mem hx] at this
    have := List.length_pos_of_mem hx
    simp only [List.length_cons]
    omega
theorem Po.favs_le (l : List Int) (k : Nat) : (Po.favs l k).length ≤ l.length :=
  length_le_sub _ _ (Po.favs_facts l k).1 (fun v hv => List.count_pos_iff.1 (by have := (Po.favs_facts l k).2 v hv; omega))
end Go.Proofs.Ytbdkoagagcemcaa.Pp
/- The walk of layer 25: joining. -/
namespace Go.Proofs.Ytbdkoagagcemcaa.Pp
open Go.RowKit Go.Maps

/-- What the call comes to. -/
def JoinRes (fs ts rs : List Int) (w : World) (e : Ending) (w' : World) : Prop :=
  ∃ A c, e = .returned (.tuple #[.slice A (Po.out fs ts rs).length c, .int .i64 (Po.err fs ts rs)]) ∧ (Ints w' A c (Po.out fs ts rs) ∧ ∀ g o, A = some ⟨g, o, none⟩ → w.heap.size ≤ g) ∧ Below w.heap.size w w'
theorem _root_.Go.Proofs.Ytbdkoagagcemcaa.Ints.next {w : World} {A : Option Addr} {c : Nat} {x : Int} {xs : List Int} (h : Ints w A c (x :: xs)) : ∃ g o, A = some ⟨g, o, none⟩ ∧ g < w.heap.size ∧ w.cell? ⟨g, o, none⟩ = some (.int .i64 x) ∧ xs.length + 1 ≤ c ∧ Ints w (if c = 1 then some ⟨g, o, none⟩ else some ⟨g, o + 1, none⟩) (c - 1) xs := by
  obtain ⟨g, o, rfl, hg, hc⟩ := h.2 (by simp)
  have h1 := h.1
  rw [List.length_cons] at h1
  refine ⟨g, o, rfl, hg, by simpa using hc 0 x (by simp), h1, by omega, fun hp => ?_⟩
  rw [if_neg (by omega)]
  refine ⟨g, o + 1, rfl, hg, fun j y hy => ?_⟩
  have := hc (j + 1) y (by simpa using hy)
  rw [show o + 1 + j = o + (j + 1) from by omega]
  exact this
theorem drop_at {α : Type} {l : List α} {i : Nat} {x : α} (h : l[i]? = some x) : l.drop i = x :: l.drop (i + 1) := by
  obtain ⟨h3, rfl⟩ := List.getElem?_eq_some_iff.1 h
  exact List.drop_eq_getElem_cons h3
/-- One number more is stored. -/
theorem row_step {w : World} {b n i : Nat} {t : TypeId} {f : Nat → Int} {y : Int} (h : w.rowIs b t n (fun j => if j < i then .int .i64 (f j) else .int .i64 0)) (hy : f i = y) :
    (w.setCell ⟨b, i, none⟩ (.int .i64 y)).rowIs b t n (fun j => if j < i + 1 then .int .i64 (f j) else .int .i64 0) :=
  (h.set i _).congr (fun j _ => by
    by_cases e : j = i
    · subst e; simp [hy]
    · rw [if_neg e]
      by_cases h1 : j < i
      · rw [if_pos h1, if_pos (by omega)]
      · rw [if_neg h1, if_neg (by omega)])

set_option maxHeartbeats 8000000 in
set_option maxRecDepth 100000 in
theorem join_any (A B C : Option Addr) (c d k : Nat) (fs ts rs : List Int) (w : World) (hx : Ints w A c fs) (hy : Ints w B d ts) (hz : Ints w C k rs) (hI : ∀ x ∈ fs, I64 x) (hJ : ∀ x ∈ rs, I64 x)
    (hn : fs.length ≤ 100000) (hm : ts.length ≤ 100000) (hl : rs.length ≤ 100000) :
    Calls Try.prog 57 #[.slice A fs.length c, .slice B ts.length d, .slice C rs.length k] w (JoinRes fs ts rs w) := by
  have HX := Lib.hid hx
  have HY := Lib.hid hy
  have HZ := Lib.hid hz
  have HPL := Lib.hid (check_any A B C c d k fs ts rs w hx hy hz hI hJ hn hm hl)
  clear hx hy hz hI hJ
  by_cases h0 : Po.err fs ts rs = 0
  rotate_left
  · have q : (Po.err fs ts rs != 0) = true := by simp [h0]
    have hfin := Lib.hid (show Po.out fs ts rs = [] from if_neg h0)
    clear h0 HX HY HZ
    go_enter Try.func57, Try.ntmps57
    go_wp2_with fail
    refine HPL.out.mono ?_
    rintro e w0 ⟨rfl, hb0⟩
    have HB0 := Lib.hid hb0
    clear hb0 HPL
    go_wp2
    go_ret2
    exact ⟨none, 0, by rw [hfin.out]; rfl, ⟨by rw [hfin.out]; exact Ints.nil _ _ _, fun g o e => by cases e⟩, HB0.out⟩
  · have hE := Lib.hid (Po.err_zero h0)
    have hfin := Lib.hid (show Po.out fs ts rs = Po.rowN fs ts rs ts.length from if_pos h0)
    have hE0 := Lib.hid h0
    rw [h0] at HPL
    clear h0
    have hmk := run_make_row' (P := Try.prog) 22 3 (.int .i64 0) 8 Try.underlying22 infoInt rfl .i64 .i64 ts.length (by omega) (by omega)
    go_enter Try.func57, Try.ntmps57
    go_wp2_with fail
    refine HPL.out.mono ?_
    rintro e w0 ⟨rfl, hb0⟩
    have HB0 := Lib.hid hb0
    clear hb0 HPL
    go_wp2_with fail
    go_loopw [2, 24] (fun v u wr => ∃ i : Nat, i ≤ ts.length ∧ u = .int .i64 i ∧ (∃ A' c', v = .slice A' (rs.drop ((ts.take i).count 0)).length c' ∧ Ints w0 A' c' (rs.drop ((ts.take i).count 0))) ∧ wr.rowIs w0.heap.size 3 ts.length (fun j => if j < i then .int .i64 (Po.el fs ts rs j) else .int .i64 0) ∧ Below w0.heap.size w0 wr) (fun _ u _ => ts.length - (intOf u).toNat)
    case atStart => exact ⟨0, Nat.zero_le _, rfl, ⟨C, k, rfl, HZ.out.grow HB0.out⟩, (World.rowIs_made w0 (.int .i64 0) ts.length 3).congr (fun j _ => by simp), (Below.refl _ _).alloc (Nat.le_refl _) _⟩
    case round =>
      obtain ⟨i, hil, rfl, ⟨A', c', rfl, hrest⟩, hrow, hB⟩ := hrel
      have HB := Lib.hid hB
      have HR := Lib.hid hrest
      have HO := Lib.hid hrow
      have HW := Lib.hid (Below.after' HB0.out hB (Nat.le_refl _))
      by_cases h1 : i < ts.length
      · obtain ⟨g, o, x, rfl, hg, hxi, hct⟩ := (HY.out.grow HW.out).at_ h1
        have hxr := Po.bad_at hE.out.1 hxi
        have hcs := Lib.hid (Po.count_step hxi)
        have hcell := hrow.cell h1
        have hfr := hrow.frozen i
        rw [if_neg (Nat.lt_irrefl i)] at hcell
        have HXI := Lib.hid hxi
        clear hB hrest hrow hxi
        by_cases hx0 : x = 0
        · subst hx0
          have q : decide ((0 : Int) < 0) = false := rfl
          have hrm := Po.room HXI.out
          rw [hE.out.2.2] at hrm
          have hcs2 := Lib.hid (hcs.out.trans (by rw [if_pos rfl]))
          obtain ⟨y, hyr⟩ : ∃ y, rs[(ts.take i).count 0]? = some y := ⟨_, List.getElem?_eq_getElem hrm⟩
          have hdr := drop_at hyr
          have hel := Lib.hid (Po.el_rest (fs := fs) HXI.out hyr)
          have hR2 := HR.out
          rw [hdr] at hR2 ⊢
          obtain ⟨g2, o2, rfl, hg2, hc2, hcap, hnx⟩ := hR2.next
          have hcell2 : wr.cell? ⟨g2, o2, none⟩ = some (.int .i64 y) := (HB.out.cell (p := ⟨g2, o2, none⟩) hg2).trans hc2
          have HN := Lib.hid hnx
          have HS := Lib.hid (row_step HO.out hel.out)
          have HD := Lib.hid (HB.out.setCell (p := ⟨w0.heap.size, i, none⟩) (Nat.le_refl _) (.int .i64 y))
          rw [← hcs2.out] at HN ⊢
          clear HR hc2 hR2 hdr hyr hcs hnx hg2
          generalize hrr : rs.drop ((ts.take (i + 1)).count 0) = rs2 at *
          have HRR := Lib.hid hrr
          clear hrr
          simp only [List.length_cons]
          go_wp2_with fail
          go_region
          all_goals go_wp2
          all_goals go_roundw
          case rel => exact ⟨i + 1, by omega, by go_num, ⟨_, _, by rw [HRR.out], by rw [HRR.out]; exact HN.out⟩, HS.out, HD.out.drew⟩
          case measure => simp [intOf]; omega
        · obtain ⟨m, rfl⟩ : ∃ m : Nat, x = ((m + 1 : Nat) : Int) := ⟨(x - 1).toNat, by omega⟩
          have q : decide ((0 : Int) < ((m + 1 : Nat) : Int)) = true := by simp
          obtain ⟨g2, o2, y, rfl, hg2, hyr, hcell2⟩ := (HX.out.grow HW.out).at_ (i := m) (by omega)
          have ek : ((m + 1 : Nat) : Int) - 1 = (m : Int) := by omega
          have hel := Lib.hid (Po.el_place (rs := rs) HXI.out hyr)
          have hcs2 := Lib.hid (hcs.out.trans (by rw [if_neg hx0, Nat.add_zero]))
          have HS := Lib.hid (row_step HO.out hel.out)
          have HD := Lib.hid (HB.out.setCell (p := ⟨w0.heap.size, i, none⟩) (Nat.le_refl _) (.int .i64 y))
          have hmf : m < fs.length := by omega
          rw [← hcs2.out] at HR ⊢
          generalize hrr : rs.drop ((ts.take (i + 1)).count 0) = rs2 at *
          have HRR := Lib.hid hrr
          clear hrr hcs hyr hxr hx0
          go_wp2_with fail
          go_roundw
          case rel => exact ⟨i + 1, by omega, by go_num, ⟨_, _, by rw [HRR.out], by rw [HRR.out]; exact HR.out⟩, HS.out, HD.out⟩
          case measure => simp [intOf]; omega
      · have hii : i = ts.length := by omega
        subst hii
        have hrd : Ints wr (some ⟨w0.heap.size, 0, none⟩) ts.length (Po.rowN fs ts rs ts.length) := ⟨by rw [Po.rowN_length]; exact Nat.le_refl _, fun _ => ⟨w0.heap.size, 0, rfl, hrow.lt, fun j x hx => by
          obtain ⟨h3, rfl⟩ := Po.rowN_get _ _ _ _ _ _ hx
          rw [Nat.zero_add, hrow.cell h3, if_pos h3]⟩⟩
        have HF := Lib.hid hrd
        clear hrest hrow hrd hB HR HO
        go_wp2
        go_ret2
        exact ⟨_, _, by rw [hfin.out, Po.rowN_length, hE0.out]; rfl, ⟨by rw [hfin.out]; exact HF.out, fun g o e => by cases e; exact HB0.out.size⟩, HW.out⟩
end Go.Proofs.Ytbdkoagagcemcaa.Pp
/- Layer 25 in plain words: what is split by its favorites is joined. No program. -/
namespace Go.Proofs.Ytbdkoagagcemcaa.Pp
open Go.RowKit

theorem Po.count_tokens (fs : List Int) : ∀ l : List Int, (Po.tokens fs l).count 0 = (Po.left fs l).length
  | [] => rfl
  | x :: l => by
    have ih := Po.count_tokens fs l
    unfold Po.tokens Po.left at *
    rw [List.map_cons, List.filter_cons]
    by_cases h : Po.at fs x = 0
    · rw [h, if_pos (by simp)]
      rw [List.length_cons, ← ih]
      exact List.count_cons_self
    · rw [if_neg (by simp [h]), ← ih]
      rw [List.count_cons_of_ne (by simp; omega)]
theorem Po.back_err {fs : List Int} (hn : fs.Nodup) (l : List Int) : Po.err fs (Po.tokens fs l) (Po.left fs l) = 0 := by
  have hb : Po.bad fs (Po.tokens fs l) = false := by
    unfold Po.bad Po.tokens
    rw [List.any_map, List.any_eq_false]
    intro x _
    have := Po.at_le fs x
    simp
    omega
  have ht : Po.twice fs (Po.left fs l) = false := by
    unfold Po.twice
    rw [decide_eq_true hn, Bool.not_true, Bool.false_or, List.any_eq_false]
    intro x hx
    have := of_decide_eq_true (List.mem_filter.1 hx).2
    simp [this]
  unfold Po.err
  rw [hb, ht, Po.count_tokens]
  simp
theorem Po.back_el (fs l : List Int) {i : Nat} {x : Int} (hx : l[i]? = some x) : Po.el fs (Po.tokens fs l) (Po.left fs l) i = x := by
  have htk : (Po.tokens fs l)[i]? = some ((Po.at fs x : Nat) : Int) := by unfold Po.tokens; rw [List.getElem?_map, hx]; rfl
  by_cases h0 : Po.at fs x = 0
  · refine Po.el_rest (by rw [htk, h0]; rfl) ?_
    have e1 : (Po.tokens fs l).take i = Po.tokens fs (l.take i) := by unfold Po.tokens; rw [List.map_take]
    rw [e1, Po.count_tokens]
    have hsp : l = l.take i ++ x :: l.drop (i + 1) := by rw [← drop_at hx, List.take_append_drop]
    have e2 : Po.left fs l = Po.left fs (l.take i) ++ x :: Po.left fs (l.drop (i + 1)) := by
      conv => lhs; rw [hsp]
      unfold Po.left
      rw [List.filter_append, List.filter_cons, if_pos (by simp [h0])]
    rw [e2]
    simp
  · obtain ⟨m, hm⟩ : ∃ m, Po.at fs x = m + 1 := ⟨Po.at fs x - 1, by omega⟩
    have hg := Po.at_get h0
    rw [hm] at htk hg
    exact Po.el_place htk hg
theorem Po.back_out {fs : List Int} (hn : fs.Nodup) (l : List Int) : Po.out fs (Po.tokens fs l) (Po.left fs l) = l := by
  unfold Po.out
  rw [if_pos (Po.back_err hn l)]
  have hlen : (Po.tokens fs l).length = l.length := by unfold Po.tokens; rw [List.length_map]
  apply List.ext_getElem?
  intro j
  by_cases hj : j < l.length
  · have h1 : l[j]? = some l[j] := List.getElem?_eq_getElem hj
    rw [h1]
    unfold Po.rowN
    rw [List.getElem?_map, List.getElem?_range (by omega)]
    show some (Po.el fs (Po.tokens fs l) (Po.left fs l) j) = _
    rw [Po.back_el fs l h1]
  · rw [List.getElem?_eq_none (by rw [Po.rowN_length]; omega), List.getElem?_eq_none (by omega)]
theorem Po.favs_length (l : List Int) : ∀ k, (Po.favs l k).length ≤ k
  | 0 => Nat.le_refl _
  | k + 1 => by
    rw [Po.favs_succ, List.length_append]
    have := Po.favs_length l k
    have h2 : (Po.next l (Po.favs l k) l).toList.length ≤ 1 := by cases Po.next l (Po.favs l k) l <;> simp
    omega
end Go.Proofs.Ytbdkoagagcemcaa.Pp