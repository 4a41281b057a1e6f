/- The walks of layer 19: what values need, the program's and the document's. -/
import Derived.Test.YtekcfjfkbiciaaaWalksA
import Derived.Test.YtekcfjfkbiciaaaGrow
namespace Go.Proofs.Ytekcfjfkbiciaaa
open Go.RowKit

theorem vrow_of_block {w : World} {M base n : Nat} {cs : Array Value} (h : w.heap[M]? = some (.cells cs 25 (0, 0))) (hb : base ≤ M) (xs : List Pv) (hcs : cs.toList = vc xs) (hn : n = xs.length) (hl : xs.length ≤ 1000) : VRow w base (.slice (some ⟨M, 0, none⟩) n n) xs := by
  subst hn
  have hs : cs.size = xs.length * 6 := by rw [← vc_length, ← hcs]; simp
  refine ⟨vc_length xs, .inr ⟨M, xs.length, cs, rfl, hb, h, Nat.le_refl _, by unfold maxLen; omega, hs, ?_⟩⟩
  rw [hcs, ← vc_length]
  exact List.take_length
/-- What is given back: a row of the call's own with these values. -/
def Gives (w : World) (xs : List Pv) (e : Ending) (w' : World) : Prop := ∃ u, e = .returned u ∧ VRow w' w.heap.size u xs ∧ Below w.heap.size w w'

theorem sizeVal : (Try.prog.info? 25).map (·.size) = some 6 := by kernel_rfl
/-- A result that lies in a box. -/
theorem val_ret {fn : Func} {R : Ending → World → Prop} {a : Act} {w : World} {p g : Nat} {v : Pv} (hf : fn.results = #[.cell p 25]) (hp : a.tmps.getD p undef = .pointer (some ⟨g, 0, none⟩)) (hb : VBox w g v) (hR : R (.returned (vv v)) w) (hd : a.defers = [] := by rfl) : bodyPost Try.prog fn R .ret a w :=
  bodyPost_ret (results_cell_row hf _ w g 25 _ _ _ hp hb Try.underlying25 rfl sizeVal) hd hR
set_option maxHeartbeats 1000000 in
theorem text_any (s : List UInt8) (w : World) : Calls Try.prog 26 #[.string (bs s)] w fun e w' => e = .returned (vv (Pv.ofText s)) ∧ Below w.heap.size w w' := by
  go_enter Try.func26, Try.ntmps26
  go_wp2
  exact val_ret (v := Pv.ofText s) rfl rfl (heap_alloc_new _ _)   ⟨rfl, (Below.refl w.heap.size w).alloc (Nat.le_refl _) _⟩
set_option maxHeartbeats 1000000 in
theorem asText_any (s : List UInt8) (w : World) : Calls Try.prog 48 #[.string (bs s)] w fun e w' => e = .returned (vv (Pv.ofText s)) ∧ Below w.heap.size w w' := by
  go_enter Try.func48, Try.ntmps48
  go_wp2
  exact val_ret (v := Pv.ofText s) rfl rfl (heap_alloc_new _ _)   ⟨rfl, (Below.refl w.heap.size w).alloc (Nat.le_refl _) _⟩
theorem text_raw (s : List UInt8) (w : World) : Calls Try.prog 26 #[.string (bs s)] w fun e w' => e = .returned (.agg #[.int .i64 1, .string (bs s), .int .u64 0, .string ⟨#[]⟩, .string ⟨#[]⟩, .string ⟨#[]⟩]) ∧ Below w.heap.size w w' := text_any s w
theorem asText_raw (s : List UInt8) (w : World) : Calls Try.prog 48 #[.string (bs s)] w fun e w' => e = .returned (.agg #[.int .i64 1, .string (bs s), .int .u64 0, .string ⟨#[]⟩, .string ⟨#[]⟩, .string ⟨#[]⟩]) ∧ Below w.heap.size w w' := asText_any s w
theorem wide_any (t : Int) (w : World) : Calls Try.prog 38 #[.int .i64 t] w fun e w' => e = .returned (.bool (t == 5 || t == 6)) ∧ w' = w := by
  go_enter Try.func38, Try.ntmps38
  by_cases h1 : t = 5
  · subst h1
    go_wp2
    go_ret
    exact ⟨rfl, rfl⟩
  · have u1 : (t == 5) = false := by simpa using h1
    have u2 : decide (t = 5) = false := decide_eq_false h1
    go_wp2
    go_ret
    exact ⟨by rw [u1, Bool.false_or]; by_cases h2 : t = 6 <;> simp [h2], rfl⟩

set_option maxHeartbeats 4000000 in
set_option maxRecDepth 100000 in
theorem needs_any (v : Pv) (w : World) : Calls Try.prog 14 #[vv v] w (Gives w v.needs) := by
  obtain ⟨tag, text, bits, cls, name, desc⟩ := v
  unfold vv
  dsimp only
  have k0 := (Below.refl w.heap.size w).alloc (Nat.le_refl _) (.cells #[.int .i64 tag, .string (bs text), .int .u64 bits, .string (bs cls), .string (bs name), .string (bs desc)] 25)
  have q : VBox (w.alloc (.cells #[.int .i64 tag, .string (bs text), .int .u64 bits, .string (bs cls), .string (bs name), .string (bs desc)] 25)) w.heap.size ⟨tag, text, bits, cls, name, desc⟩ := heap_alloc_new _ _
  have other : ¬ (tag = 7 ∨ tag = 8) → ¬ tag = 12 → ¬ (tag = 9 ∨ tag = 10 ∨ tag = 11) → Calls Try.prog 14 #[.agg #[.int .i64 tag, .string (bs text), .int .u64 bits, .string (bs cls), .string (bs name), .string (bs desc)]] w (Gives w []) := by
    intro n1 n2 n3
    have u7 : (tag == 7) = false := by simp; omega
    have u8 : (tag == 8) = false := by simp; omega
    have u12 : (tag == 12) = false := by simp; omega
    have u9 : (tag == 9) = false := by simp; omega
    have u10 : (tag == 10) = false := by simp; omega
    have u11 : (tag == 11) = false := by simp; omega
    have K := Lib.hid k0
    clear q k0
    go_enter Try.func14, Try.ntmps14
    go_wp2
    go_ret
    exact ⟨_, rfl, VRow.nil _ _, K.out⟩
  have one : (tag = 7 ∨ tag = 8) → Calls Try.prog 14 #[.agg #[.int .i64 tag, .string (bs text), .int .u64 bits, .string (bs cls), .string (bs name), .string (bs desc)]] w (Gives w [Pv.ofText text]) := by
    intro h
    have K := Lib.hid k0
    clear q k0 other
    rcases h with rfl | rfl <;>
    · go_enter Try.func14, Try.ntmps14
      go_wp2_with fail
      refine (text_any text _).mono ?_
      rintro e w1 ⟨rfl, hb⟩
      have K1 := Lib.hid (K.out.trans (hb.mono K.out.size))
      unfold vv Pv.ofText
      dsimp only
      clear hb
      go_wp2
      go_ret
      exact ⟨_, rfl, vrow_of_block (heap_alloc_new _ _) K1.out.size [Pv.ofText text] rfl rfl (by simp), K1.out.alloc K1.out.size _⟩
  have pair : tag = 12 → Calls Try.prog 14 #[.agg #[.int .i64 tag, .string (bs text), .int .u64 bits, .string (bs cls), .string (bs name), .string (bs desc)]] w (Gives w [Pv.ofText name, Pv.ofText desc]) := by
    intro h
    subst h
    have K := Lib.hid k0
    clear k0 other one
    go_enter Try.func14, Try.ntmps14
    go_wp2_with fail
    generalize w.alloc (.cells #[.int .i64 12, .string (bs text), .int .u64 bits, .string (bs cls), .string (bs name), .string (bs desc)] 25) = W at q K ⊢
    obtain ⟨c0, c1, c2, c3, c4, c5⟩ := q.at_
    dsimp only at c0 c1 c2 c3 c4 c5
    have zd : w.heap.size < W.drew.heap.size := q.lt
    clear q
    refine wp_region_ord 8 (by kernel_rfl) (by kernel_rfl) (fun _ _ d _ _ h => by cases d <;> exact h) ?_
    simp only [List.take_succ_cons, List.take_zero, List.drop_succ_cons, List.drop_zero]
    repeat (first | (refine wpLex_skip rfl ?_; simp only [Act.put, List.setIfInBounds_toArray, List.set_cons_zero, List.set_cons_succ]) | (refine wpLex_fix rfl ?_; intro F hF R hR hne K hK; go_big_quiet_op; first | (go_big_quiet_on; clear hne hR R hF F) | (apply Exists.intro; refine ⟨fun g => ?_, ?_⟩; (((first | (rw [GrE.cell g _ _ zd]; go_simp; first | exact ⟨rfl, rfl⟩ | rfl) | (go_at_call 26; exact GrE.call hR (text_raw _ _))))); go_big_quiet_on; clear hne hR R hF F)) | (apply wpLex_blk rfl; (focus (intro x hx; go_simp; exact ⟨rfl, rfl⟩)); intro B hB; simp only [Act.put, blkVal, List.setIfInBounds_toArray, List.set_cons_zero, List.set_cons_succ]))
    refine wpLex_nil ?_
    intro w1 hw1
    have F1 := hw1.fact 20 _ _ (.inr ⟨rfl, rfl, rfl⟩)
    have K1 := Lib.hid (Below.after' (Below.drew K.out) hw1.below (Nat.le_refl _))
    have L1 := Lib.hid F1.2
    have hB := F1.1
    clear hw1 F1
    go_wp2
    go_ret
    refine ⟨_, rfl, vrow_of_block L1.out (by have := K.out.size; exact Nat.le_trans this hB) [Pv.ofText name, Pv.ofText desc] ?_ rfl (by simp), K1.out⟩
    rfl
  have memb : (tag = 9 ∨ tag = 10 ∨ tag = 11) → Calls Try.prog 14 #[.agg #[.int .i64 tag, .string (bs text), .int .u64 bits, .string (bs cls), .string (bs name), .string (bs desc)]] w (Gives w [Pv.ofCls cls, Pv.ofPair name desc]) := by
    intro h
    have K := Lib.hid k0
    clear q k0 other one pair
    rcases h with rfl | rfl | rfl <;>
    · go_enter Try.func14, Try.ntmps14
      go_wp2
      go_ret
      refine ⟨_, rfl, vrow_of_block (heap_alloc2_new w _ _) (by omega) [Pv.ofCls cls, Pv.ofPair name desc] ?_ rfl (by simp), K.out.alloc K.out.size _⟩
      rfl
  unfold Pv.needs
  dsimp only
  split
  · rename_i h; exact one h
  · split
    · rename_i h; exact pair h
    · split
      · rename_i h; exact memb h
      · rename_i n1 n2 n3; exact other n1 n2 n3
end Go.Proofs.Ytekcfjfkbiciaaa
