/- The walks of layer 25: splitting. -/
import Derived.Test.YteegpbdkalpeiaaWalksB
import Derived.Deep.Cut
namespace Go.Proofs.Yteegpbdkalpeiaa
open Go.RowKit Go.Maps

/-- One number on, onto a row of the call's own. -/
theorem wpList_app1 {w : World} {ops : Array Oper} {rest : List Oper} {o : Oper} {a : Act} {Q : Exit → Act → World → Prop} (hgd : o.guard = none) (s x : Operand)
    (ho : o.op = .call { callee := .builtin .append, args := #[s, x], argTypes := #[22, 22] })
    (base : Nat) (v : Value) (xs : List Int) (hv : a.eval s = v) (hown : IRow w base v xs) (B : Nat) (n : Int) (t : TypeId) (fr : Nat × Nat) (hX : a.eval x = .slice (some ⟨B, 0, none⟩) 1 1)
    (hb : w.heap[B]? = some (.cells #[.int .i64 n] t fr)) (hn : xs.length ≤ 1000000) (hbase : base ≤ w.heap.size)
    (h : ∀ v' w', IRow w' base v' (xs ++ [n]) → Hop w w' v.ownBlock v'.ownBlock → wpList Try.prog ops Q rest (a.put o.dst v') w') : wpList Try.prog ops Q (o :: rest) a w := by
  obtain ⟨i0, hi, hz0, hz1, hz2⟩ := info_parts infoInt
  refine wpList_append_row hgd s x 22 22 ho base 3 i0 (.int .i64 0) 1 8 Try.underlying22 hi hz0 hz1 hz2 rfl v _ _ hv hown _ 1 [.int .i64 n] hX (fun v' w' h1 h2 => h v' w' (IRow.app (ys := [n]) h1 rfl) h2) ?_ ?_ ?_ hbase
  · exact src_block Try.underlying22 1 1 1 _ #[.int .i64 n] _ _ hb rfl (by simp [Value.oneCell'])
  · unfold maxLen; omega
  · omega
theorem IRow.base {w : World} {base base' : Nat} {v : Value} {xs : List Int} (h : IRow w base v xs) (hb : base' ≤ base) : IRow w base' v xs := by
  refine ⟨h.1, ?_⟩
  rcases h.2 with hn | ⟨g, cap, cur, hv, hbg, rest⟩
  · exact .inl hn
  · exact .inr ⟨g, cap, cur, hv, Nat.le_trans hb hbg, rest⟩
/-- Two rows that share no block. -/
def Apart (v1 v2 : Value) : Prop := ∀ k, v1.ownBlock = some k → v2.ownBlock ≠ some k
theorem Apart.nil (v : Value) : Apart (.slice none 0 0) v := fun _ h => by simp [Value.ownBlock] at h
theorem Apart.symm {v1 v2 : Value} (h : Apart v1 v2) : Apart v2 v1 := fun k h2 h1 => h k h1 h2
theorem IRow.other {w w' : World} {base : Nat} {v1 v1' v2 : Value} {xs : List Int} (h : IRow w base v2 xs) (hop : Hop w w' v1.ownBlock v1'.ownBlock) (ap : Apart v1 v2) : IRow w' base v2 xs ∧ Apart v1' v2 := by
  refine ⟨World.ownsRow.kept h hop.1 ?_, fun k hk h2 => ?_⟩
  · cases h2 : v2.ownBlock with
    | none => exact .inl rfl
    | some k => exact .inr (fun e => ap k e.symm h2)
  · rcases hop.2 with e | ⟨g, hg, e⟩
    · rw [e] at hk; exact ap k hk h2
    · rw [e] at hk
      cases hk
      have := (World.ownsRow.lt h k h2).2
      omega
theorem IRow.hop_below {w w' : World} {base : Nat} {v v' : Value} {xs : List Int} (h : IRow w base v xs) (hop : Hop w w' v.ownBlock v'.ownBlock) {B : Nat} {a : World} (hB : Below B a w) (h1 : B ≤ a.heap.size) (h2 : B ≤ base) : Below B a w' :=
  hB.trans (hop.below (Nat.le_trans h1 hB.size) (fun k e => Nat.le_trans h2 (h.base_le e)))

/-- What the call comes to. -/
def SplitRes (fs l : List Int) (w : World) (e : Ending) (w' : World) : Prop :=
  ∃ v1 v2, e = .returned (.tuple #[v1, v2]) ∧ IRow w' w.heap.size v1 (Po.tokens fs l) ∧ IRow w' w.heap.size v2 (Po.left fs l) ∧ Below w.heap.size w w'

set_option maxHeartbeats 8000000 in
set_option maxRecDepth 100000 in
theorem split_any (A B : Option Addr) (c d : Nat) (l fs : List Int) (w : World) (hx : Ints w A c l) (hy : Ints w B d fs) (hI : ∀ x ∈ l, I64 x) (hJ : ∀ x ∈ fs, I64 x) (hn : l.length ≤ 100000) (hm : fs.length ≤ 100000) :
    Calls Try.prog 7 #[.slice A l.length c, .slice B fs.length d] w (SplitRes fs l w) := by
  have HX := Lib.hid hx
  have HI := Lib.hid hI
  have HPL := Lib.hid (places_any B d fs w hy hJ (by omega))
  clear hx hy hI hJ
  go_enter Try.func7, Try.ntmps7
  go_wp2_with fail
  refine HPL.out.mono ?_
  rintro e w0 ⟨rfl, hP, hb0⟩
  obtain ⟨D, hO, hMI, _⟩ := hP
  have HO := Lib.hid hO
  have HM := Lib.hid hMI
  have HB0 := Lib.hid hb0
  have hlt0 := hO.lt
  clear hO hMI hb0 HPL
  go_wp2_with fail
  go_loopw [4, 5, 13] (fun v1 v2 u wr => ∃ i : Nat, i ≤ l.length ∧ u = .int .i64 i ∧ IRow wr w0.heap.size v1 (Po.tokens fs (l.take i)) ∧ IRow wr w0.heap.size v2 (Po.left fs (l.take i)) ∧ Apart v1 v2 ∧ Below w0.heap.size w0 wr) (fun _ _ u _ => l.length - (intOf u).toNat)
  case atStart => exact ⟨0, Nat.zero_le _, rfl, IRow.nil _ _, IRow.nil _ _, Apart.nil _, Below.refl _ _⟩
  case round =>
    obtain ⟨i, hil, rfl, hr1, hr2, hap, hB⟩ := hrel
    have HB := Lib.hid hB
    have HR1 := Lib.hid hr1
    have HR2 := Lib.hid hr2
    have HAP := Lib.hid hap
    have hlt : (Po.tokens fs (l.take i)).length ≤ l.length := by unfold Po.tokens; rw [List.length_map, List.length_take]; omega
    have hll : (Po.left fs (l.take i)).length ≤ l.length := by unfold Po.left; exact Nat.le_trans (List.length_filter_le _ _) (by rw [List.length_take]; omega)
    by_cases h1 : i < l.length
    · obtain ⟨g, o, x, rfl, hg, hxi, hcell⟩ := (HX.out.grow (Below.after' HB0.out (hB.mono (Nat.le_refl _)) (Nat.le_refl _))).at_ h1
      have hIx := HI.out x (List.mem_of_getElem? hxi)
      have htk := Lib.hid (take_snocI l i x hxi)
      have hO2 := Lib.hid (HO.out.keep (hB.mono (Nat.le_refl _)))
      have hlook := look_run hO2.out HM.out hIx
      have hIx2 := Lib.hid hIx
      have hzr := hB.size
      have hT := Lib.hid (show Po.tokens fs (l.take (i + 1)) = Po.tokens fs (l.take i) ++ [(Po.at fs x : Int)] by rw [htk.out, Po.tokens_snoc])
      clear hB hr1 hr2 hap hxi hIx
      by_cases h0 : Po.at fs x = 0
      · have q : (((Po.at fs x : Nat) : Int) == 0) = true := by simp [h0]
        have q2 : (Po.at fs x == 0) = true := by simp [h0]
        have hL := Lib.hid (show Po.left fs (l.take (i + 1)) = Po.left fs (l.take i) ++ [x] by rw [htk.out, Po.left_snoc, if_pos h0])
        clear h0

        go_upto_region 7 with ((at_builtin; refine wpList_app1 rfl _ _ rfl w0.heap.size u4 _ rfl (HR1.out.grow ((Below.refl _ _).alloc (Nat.le_refl _) _)) wr.heap.size ((Po.at fs x : Nat) : Int) _ _ rfl (heap_alloc_new _ _) (by omega) (by simp; omega) ?_; intro v' w1 hown1 hhop1; have hR1 := Lib.hid hown1; have hR2 := Lib.hid ((HR2.out.grow ((Below.refl _ _).alloc (Nat.le_refl _) (.cells #[.int .i64 ((Po.at fs x : Nat) : Int)] 3))).other hhop1 HAP.out); have HB1 := Lib.hid ((HR1.out.grow ((Below.refl _ _).alloc (Nat.le_refl _) (.cells #[.int .i64 ((Po.at fs x : Nat) : Int)] 3))).hop_below hhop1 (HB.out.alloc hzr _) (Nat.le_refl _) (Nat.le_refl _)); have hlook1 := look_run (HO.out.keep HB1.out) HM.out hIx2.out; have hz1 := HB1.out.size; clear hown1 hhop1 hlook))
        go_wp2_with (at_builtin; (refine wpList_app1 rfl _ _ rfl w0.heap.size u5 _ rfl (hR2.out.1.grow ((Below.refl _ _).alloc (Nat.le_refl _) _)) w1.heap.size x _ _ rfl (heap_alloc_new _ _) (by omega) (by simp; omega) ?_))
        intro v2' w2 hown2 hhop2
        have hS2 := Lib.hid hown2
        have hS1 := Lib.hid ((hR1.out.grow ((Below.refl _ _).alloc (Nat.le_refl _) (.cells #[.int .i64 x] 3))).other hhop2 hR2.out.2.symm)
        have HB2 := Lib.hid ((hR2.out.1.grow ((Below.refl _ _).alloc (Nat.le_refl _) (.cells #[.int .i64 x] 3))).hop_below hhop2 (HB1.out.alloc hz1 _) (Nat.le_refl _) (Nat.le_refl _))
        clear hown2 hhop2 hlook1
        go_wp2_with fail
        go_roundw
        case rel => exact ⟨i + 1, by omega, by go_num, by rw [hT.out]; exact hS1.out.1, by rw [hL.out]; exact hS2.out, hS1.out.2.symm, HB2.out⟩
        case measure => simp [intOf]; omega
      · have q : (((Po.at fs x : Nat) : Int) == 0) = false := by simp [h0]
        have q2 : (Po.at fs x == 0) = false := by simp [h0]
        have hL := Lib.hid (show Po.left fs (l.take (i + 1)) = Po.left fs (l.take i) by rw [htk.out, Po.left_snoc, if_neg h0, List.append_nil])
        clear h0

        go_wp2_with (first | (at_builtin; refine wpList_app1 rfl _ _ rfl w0.heap.size u4 _ rfl (HR1.out.grow ((Below.refl _ _).alloc (Nat.le_refl _) _)) wr.heap.size ((Po.at fs x : Nat) : Int) _ _ rfl (heap_alloc_new _ _) (by omega) (by simp; omega) ?_; intro v' w1 hown1 hhop1; have hR1 := Lib.hid hown1; have hR2 := Lib.hid ((HR2.out.grow ((Below.refl _ _).alloc (Nat.le_refl _) (.cells #[.int .i64 ((Po.at fs x : Nat) : Int)] 3))).other hhop1 HAP.out); have HB1 := Lib.hid ((HR1.out.grow ((Below.refl _ _).alloc (Nat.le_refl _) (.cells #[.int .i64 ((Po.at fs x : Nat) : Int)] 3))).hop_below hhop1 (HB.out.alloc hzr _) (Nat.le_refl _) (Nat.le_refl _)); have hlook1 := look_run (HO.out.keep HB1.out) HM.out hIx2.out; have hz1 := HB1.out.size; clear hown1 hhop1 hlook) | fail)
        go_roundw
        case rel => exact ⟨i + 1, by omega, by go_num, by rw [hT.out]; exact hR1.out, by rw [hL.out]; exact hR2.out.1, hR2.out.2, HB1.out⟩
        case measure => simp [intOf]; omega
    · have hfin : l.take i = l := List.take_of_length_le (by omega)
      rw [hfin] at hr1 hr2
      have HJ := Lib.hid (Below.after' HB0.out hB (Nat.le_refl _))
      have hbase := HB0.out.size
      have HS1 := Lib.hid hr1
      have HS2 := Lib.hid hr2
      clear hr1 hr2 hB hap
      go_wp2
      go_ret2
      exact ⟨_, _, rfl, HS1.out.base hbase, HS2.out.base hbase, HJ.out⟩
end Go.Proofs.Yteegpbdkalpeiaa
