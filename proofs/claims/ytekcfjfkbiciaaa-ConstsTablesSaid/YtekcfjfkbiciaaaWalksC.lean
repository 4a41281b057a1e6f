/- The walks of layer 19: what values need, the document's. -/
import Derived.Test.YtekcfjfkbiciaaaWalksB
namespace Go.Proofs.Ytekcfjfkbiciaaa
open Go.RowKit

set_option maxHeartbeats 4000000 in
set_option maxRecDepth 100000 in
theorem rneeds_any (v : Pv) (w : World) : Calls Try.prog 36 #[vv v] w (Gives w v.needs) := by
  obtain ⟨tag, text, bits, cls, name, desc⟩ := v
  unfold vv
  dsimp only
  have k0 := (Below.refl w.heap.size w).alloc (Nat.le_refl _) (.cells #[.int .i64 tag, .string (bs text), .int .u64 bits, .string (bs cls), .string (bs name), .string (bs desc)] 25)
  have q : VBox (w.alloc (.cells #[.int .i64 tag, .string (bs text), .int .u64 bits, .string (bs cls), .string (bs name), .string (bs desc)] 25)) w.heap.size ⟨tag, text, bits, cls, name, desc⟩ := heap_alloc_new _ _
  have other : ¬ (tag = 7 ∨ tag = 8) → ¬ tag = 12 → ¬ (tag = 9 ∨ tag = 10 ∨ tag = 11) → Calls Try.prog 36 #[.agg #[.int .i64 tag, .string (bs text), .int .u64 bits, .string (bs cls), .string (bs name), .string (bs desc)]] w (Gives w []) := by
    intro n1 n2 n3
    have u7 : (tag == 7) = false := by simp; omega
    have u8 : (tag == 8) = false := by simp; omega
    have u12 : (tag == 12) = false := by simp; omega
    have u9 : (tag == 9) = false := by simp; omega
    have u10 : (tag == 10) = false := by simp; omega
    have u11 : (tag == 11) = false := by simp; omega
    have K := Lib.hid k0
    have Q := Lib.hid q
    have hz := q.lt
    clear q k0
    go_enter Try.func36, Try.ntmps36
    go_wp2_with fail
    refine (asText_raw text _).mono ?_
    rintro e w1 ⟨rfl, hb⟩
    have q1 := Q.out.keep hb hz
    obtain ⟨c0, c1, c2, c3, c4, c5⟩ := q1.at_
    dsimp only at c0 c1 c2 c3 c4 c5
    have K1 := Lib.hid ((K.out.trans (hb.mono K.out.size)).alloc (K.out.trans (hb.mono K.out.size)).size (.cells #[.int .i64 1, .string (bs text), .int .u64 0, .string ⟨#[]⟩, .string ⟨#[]⟩, .string ⟨#[]⟩] 25))
    have hl1 := q1.lt
    clear hb q1
    go_wp2
    go_ret
    exact ⟨_, rfl, VRow.nil _ _, K1.out⟩
  have one : (tag = 7 ∨ tag = 8) → Calls Try.prog 36 #[.agg #[.int .i64 tag, .string (bs text), .int .u64 bits, .string (bs cls), .string (bs name), .string (bs desc)]] w (Gives w [Pv.ofText text]) := by
    intro h
    have K := Lib.hid k0
    have Q := Lib.hid q
    have hz := q.lt
    clear q k0 other
    rcases h with rfl | rfl <;>
    · go_enter Try.func36, Try.ntmps36
      go_wp2_with fail
      refine (asText_raw text _).mono ?_
      rintro e w1 ⟨rfl, hb⟩
      have q1 := Q.out.keep hb hz
      obtain ⟨c0, c1, c2, c3, c4, c5⟩ := q1.at_
      dsimp only at c0 c1 c2 c3 c4 c5
      have K1 := Lib.hid (K.out.trans (hb.mono K.out.size))
      have hl1 := q1.lt
      clear hb q1
      go_wp2
      go_ret
      refine ⟨_, rfl, vrow_of_block (heap_alloc2_new w1 _ _) (by have := K1.out.size; omega) [Pv.ofText text] ?_ rfl (by simp), ?_⟩
      · rfl
      · have := (K1.out.alloc K1.out.size (.cells #[.int .i64 1, .string (bs text), .int .u64 0, .string ⟨#[]⟩, .string ⟨#[]⟩, .string ⟨#[]⟩] 25))
        exact this.alloc this.size _
  have pair : tag = 12 → Calls Try.prog 36 #[.agg #[.int .i64 tag, .string (bs text), .int .u64 bits, .string (bs cls), .string (bs name), .string (bs desc)]] w (Gives w [Pv.ofText name, Pv.ofText desc]) := by
    intro h
    subst h
    have K := Lib.hid k0
    have Q := Lib.hid q
    have hz := q.lt
    clear q k0 other one
    go_enter Try.func36, Try.ntmps36
    go_wp2_with fail
    refine (asText_raw text _).mono ?_
    rintro e w1 ⟨rfl, hb⟩
    have q1 := Q.out.keep hb hz
    have k1 := K.out.trans (hb.mono K.out.size)
    have k2 := (Below.refl w1.heap.size w1).alloc (Nat.le_refl _) (.cells #[.int .i64 1, .string (bs text), .int .u64 0, .string ⟨#[]⟩, .string ⟨#[]⟩, .string ⟨#[]⟩] 25)
    have q2 := q1.keep k2 q1.lt
    obtain ⟨c0, c1, c2, c3, c4, c5⟩ := q1.at_
    dsimp only at c0 c1 c2 c3 c4 c5
    have K2 := Lib.hid (k1.trans (k2.mono k1.size))
    have Q2 := Lib.hid q2
    have hl1 := q1.lt
    clear hb q1 q2 k1 k2
    go_wp2_with fail
    generalize w1.alloc (.cells #[.int .i64 1, .string (bs text), .int .u64 0, .string ⟨#[]⟩, .string ⟨#[]⟩, .string ⟨#[]⟩] 25) = W at K2 Q2 ⊢
    have zd : w.heap.size < W.drew.heap.size := Q2.out.lt
    obtain ⟨c0, c1, c2, c3, c4, c5⟩ := Q2.out.at_
    dsimp only at c0 c1 c2 c3 c4 c5
    refine wp_region_ord 8 (by kernel_rfl) (by kernel_rfl) (fun _ _ d _ _ h => by cases d <;> exact h) ?_
    simp only [List.take_succ_cons, List.take_zero, List.drop_succ_cons, List.drop_zero]
    repeat (first | (refine wpLex_skip rfl ?_; simp only [Act.put, List.setIfInBounds_toArray, List.set_cons_zero, List.set_cons_succ]) | (refine wpLex_fix rfl ?_; intro F hF R hR hne K hK; go_big_quiet_op; first | (go_big_quiet_on; clear hne hR R hF F) | (apply Exists.intro; refine ⟨fun g => ?_, ?_⟩; (((first | (rw [GrE.cell g _ _ zd]; go_simp; first | exact ⟨rfl, rfl⟩ | rfl) | (go_at_call 48; exact GrE.call hR (asText_raw _ _))))); go_big_quiet_on; clear hne hR R hF F)) | (apply wpLex_blk rfl; (focus (intro x hx; go_simp; exact ⟨rfl, rfl⟩)); intro B hB; simp only [Act.put, blkVal, List.setIfInBounds_toArray, List.set_cons_zero, List.set_cons_succ]))
    refine wpLex_nil ?_
    intro w1 hw1
    have F1 := hw1.fact 22 _ _ (.inr ⟨rfl, rfl, rfl⟩)
    have K3 := Lib.hid (Below.after' (Below.drew K2.out) hw1.below (Nat.le_refl _))
    have L1 := Lib.hid F1.2
    have hB := F1.1
    clear hw1 F1
    go_wp2
    go_ret
    refine ⟨_, rfl, vrow_of_block L1.out (by have := K2.out.size; exact Nat.le_trans this hB) [Pv.ofText name, Pv.ofText desc] ?_ rfl (by simp), K3.out⟩
    rfl
  have memb : (tag = 9 ∨ tag = 10 ∨ tag = 11) → Calls Try.prog 36 #[.agg #[.int .i64 tag, .string (bs text), .int .u64 bits, .string (bs cls), .string (bs name), .string (bs desc)]] w (Gives w [Pv.ofCls cls, Pv.ofPair name desc]) := by
    intro h
    have K := Lib.hid k0
    have Q := Lib.hid q
    have hz := q.lt
    clear q k0 other one pair
    rcases h with rfl | rfl | rfl <;>
    · go_enter Try.func36, Try.ntmps36
      go_wp2_with fail
      refine (asText_raw text _).mono ?_
      rintro e w1 ⟨rfl, hb⟩
      have q1 := Q.out.keep hb hz
      obtain ⟨c0, c1, c2, c3, c4, c5⟩ := q1.at_
      dsimp only at c0 c1 c2 c3 c4 c5
      have K1 := Lib.hid (K.out.trans (hb.mono K.out.size))
      have hl1 := q1.lt
      clear hb q1
      go_wp2
      go_ret
      refine ⟨_, rfl, vrow_of_block (heap_alloc2_new w1 _ _) (by have := K1.out.size; omega) [Pv.ofCls cls, Pv.ofPair name desc] ?_ rfl (by simp), ?_⟩
      · rfl
      · have := (K1.out.alloc K1.out.size (.cells #[.int .i64 1, .string (bs text), .int .u64 0, .string ⟨#[]⟩, .string ⟨#[]⟩, .string ⟨#[]⟩] 25))
        exact this.alloc this.size _
  unfold Pv.needs
  dsimp only
  split
  · rename_i h; exact one h
  · split
    · rename_i h; exact pair h
    · split
      · rename_i h; exact memb h
      · rename_i n1 n2 n3; exact other n1 n2 n3
end Go.Proofs.Ytekcfjfkbiciaaa
