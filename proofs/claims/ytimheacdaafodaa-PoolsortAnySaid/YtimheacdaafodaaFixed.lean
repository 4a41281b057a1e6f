/- The fixed cases of layer 19's law. -/
import Derived.Test.YtimheacdaafodaaPool
namespace Go.Proofs.Ytimheacdaafodaa
open Go.RowKit Go.Maps

def ta : Pv := Pv.ofText [97]
def ca : Pv := Pv.ofCls [97]
theorem ta_lt : Pv.lt ta ca := Or.inl (by decide)
theorem rest_a : Pv.rest [] [ca, ca] = [ta, ca] := by
  refine rises_uniq Pv.lin (sd_rises Pv.lin _) (by simp [ta_lt]) fun x => ?_
  have h : clAll [ca, ca] = [ca, ta, ca, ta] := by decide
  rw [Pv.rest_mem, List.nil_append, h]
  simp
  constructor
  · rintro (h | h | h | h) <;> simp [h]
  · rintro (h | h) <;> simp [h]
theorem ord_a : Pv.ord [] [ca, ca] = [ta, ca] := by unfold Pv.ord; rw [rest_a]; rfl
theorem rest_b : Pv.rest [ca] [] = [ta] := by
  refine rises_uniq Pv.lin (sd_rises Pv.lin _) (by simp) fun x => ?_
  have h : clAll [ca] = [ca, ta] := by decide
  have hne : ta ≠ ca := by decide
  rw [Pv.rest_mem, List.append_nil, h]
  simp
  constructor
  · rintro ⟨h | h, h2⟩
    · exact absurd h h2
    · exact h
  · rintro rfl
    exact ⟨.inr rfl, hne⟩
theorem ord_b : Pv.ord [ca] [] = [ca, ta] := by
  unfold Pv.ord
  rw [rest_b, show sd Pv.lt [ca] = [ca] from by unfold sd putO; simp]
  rfl
theorem num_a : Pv.num [ta, ca] ca = 2 := by decide
theorem num_b : Pv.num [ca, ta] ca = 1 := by decide
theorem raws_a : Pv.raws [ta, ca] = [Rw.zero, ⟨1, [97], 0, 0, 0⟩, ⟨7, [], 0, 1, 0⟩] := by decide
theorem err_a : Pv.errOf ([] ++ [ca, ca]) = 0 := by decide
theorem err_b : Pv.errOf ([ca] ++ []) = 0 := by decide
theorem err_c : Pv.errOf ([] ++ [(⟨2, [], 0, [], [], []⟩ : Pv)]) = 9 := by decide
theorem ca_fits : ca.fits := by unfold Pv.fits I64 ca Pv.ofCls; decide
theorem ta_fits : ta.fits := by unfold Pv.fits I64 ta Pv.ofText; decide
theorem two_fits : Pv.fits ⟨2, [], 0, [], [], []⟩ := by unfold Pv.fits I64; decide
def CaAt (w : World) (g : Nat) : Prop :=
  w.cell? ⟨g, 0, none⟩ = some (.int .i64 7) ∧ w.cell? ⟨g, 1, none⟩ = some (.string ⟨#[97]⟩) ∧ w.cell? ⟨g, 2, none⟩ = some (.int .u64 0) ∧ w.cell? ⟨g, 3, none⟩ = some (.string ⟨#[]⟩) ∧ w.cell? ⟨g, 4, none⟩ = some (.string ⟨#[]⟩) ∧ w.cell? ⟨g, 5, none⟩ = some (.string ⟨#[]⟩)
theorem ca_at {w : World} {g : Nat} (h : VBox w g ca) : CaAt w g := h.at_
theorem vals_one {w : World} {B : Nat} {v : Pv} (hb : w.heap[B]? = some (.cells #[.int .i64 v.tag, .string (bs v.text), .int .u64 v.bits, .string (bs v.cls), .string (bs v.name), .string (bs v.desc)] 25 (0, 0))) : Vals w (some ⟨B, 0, none⟩) 1 [v] :=
  VRow.vals (vrow_of_block (base := 0) hb (Nat.zero_le _) [v] rfl rfl (by simp))
set_option maxRecDepth 100000 in
set_option maxHeartbeats 4000000 in
theorem fixed_any (w : World) : Calls Try.prog 6 #[] w fun e w' => e = .returned (.bool true) ∧ Below w.heap.size w w' := by
  go_enter Try.func6, Try.ntmps6
  have k0 := Lib.hid ((Below.refl w.heap.size w).alloc (Nat.le_refl _) (.cells #[.int .i64 7, .string ⟨#[97]⟩, .int .u64 0, .string ⟨#[]⟩, .string ⟨#[]⟩, .string ⟨#[]⟩] 25))
  have q0 := Lib.hid (show VBox (w.alloc (.cells #[.int .i64 7, .string ⟨#[97]⟩, .int .u64 0, .string ⟨#[]⟩, .string ⟨#[]⟩, .string ⟨#[]⟩] 25)) w.heap.size ca from vbox_new w ca)
  go_wp2_with fail
  have hs0 := k0.out.size
  refine (new_any none (some ⟨w.heap.size + 1, 0, none⟩) 0 2 [] [ca, ca] _ (Vals.nil _ _ _) (VRow.vals (vrow_of_block (base := 0) (heap_alloc2_new w _ _) (Nat.zero_le _) [ca, ca] rfl rfl (by simp))) (fun _ => rfl) (by simp) (by simp) (by simp [ca_fits])).mono ?_
  rintro e w1 ⟨⟨h, _⟩ | ⟨_, b1, u1, m1, n1, rfl, hp1⟩, hb1⟩
  · exact absurd err_a h
  rw [ord_a] at hp1
  have hk1 := Lib.hid ((k0.out.alloc k0.out.size (.cells #[.int .i64 7, .string ⟨#[97]⟩, .int .u64 0, .string ⟨#[]⟩, .string ⟨#[]⟩, .string ⟨#[]⟩, .int .i64 7, .string ⟨#[97]⟩, .int .u64 0, .string ⟨#[]⟩, .string ⟨#[]⟩, .string ⟨#[]⟩] 25)).trans (hb1.mono (by simp; omega)))
  have q1 := Lib.hid ((q0.out.keep ((Below.refl _ _).alloc (Nat.le_refl _) (.cells #[.int .i64 7, .string ⟨#[97]⟩, .int .u64 0, .string ⟨#[]⟩, .string ⟨#[]⟩, .string ⟨#[]⟩, .int .i64 7, .string ⟨#[97]⟩, .int .u64 0, .string ⟨#[]⟩, .string ⟨#[]⟩, .string ⟨#[]⟩] 25)) q0.out.lt).keep hb1 (by simp; omega))
  have P1 := Lib.hid hp1
  obtain ⟨d0, d1, d2, d3, d4, d5⟩ := ca_at q1.out
  have hz := q1.out.lt
  clear hb1 hp1 k0 q0
  have k2 := Lib.hid ((Below.refl w1.heap.size w1).alloc (Nat.le_refl _) (.cells #[.int .i64 7, .string ⟨#[97]⟩, .int .u64 0, .string ⟨#[]⟩, .string ⟨#[]⟩, .string ⟨#[]⟩] 25))
  go_wp2_with fail
  refine (new_any (some ⟨w1.heap.size, 0, none⟩) none 1 0 [ca] [] _ (vals_one (v := ca) (heap_alloc_new w1 _)) (Vals.nil _ _ _) (fun e => by cases e) (by simp) (by simp) (by simp [ca_fits])).mono ?_
  rintro e w2 ⟨⟨h, _⟩ | ⟨_, b2, u2, m2, n2, rfl, hp2⟩, hb2⟩
  · exact absurd err_b h
  rw [ord_b] at hp2
  have K2 := Lib.hid (k2.out.trans (hb2.mono k2.out.size))
  have q2 := Lib.hid (q1.out.keep K2.out q1.out.lt)
  have P2 := Lib.hid (P1.out.grow K2.out)
  have R2 := Lib.hid hp2
  have B2 := Lib.hid (hk1.out.trans (K2.out.mono hk1.out.size))
  clear d0 d1 d2 d3 d4 d5 hz hb2 hp2 k2 K2 q1 P1 hk1
  have k3 := Lib.hid ((Below.refl w2.heap.size w2).alloc (Nat.le_refl _) (.cells #[.int .i64 2, .string ⟨#[]⟩, .int .u64 0, .string ⟨#[]⟩, .string ⟨#[]⟩, .string ⟨#[]⟩] 25))
  go_wp2_with fail
  refine (new_any none (some ⟨w2.heap.size, 0, none⟩) 0 1 [] [(⟨2, [], 0, [], [], []⟩ : Pv)] _ (Vals.nil _ _ _) (vals_one (v := ⟨2, [], 0, [], [], []⟩) (heap_alloc_new w2 _)) (fun _ => rfl) (by simp) (by simp) (by simp [two_fits])).mono ?_
  rintro e w3 ⟨⟨_, rfl⟩ | ⟨h, _⟩, hb3⟩
  rotate_left
  · rw [err_c] at h
    exact absurd h (by decide)
  rw [err_c]
  have K3 := Lib.hid (k3.out.trans (hb3.mono k3.out.size))
  have q3 := Lib.hid (q2.out.keep K3.out q2.out.lt)
  have P3 := Lib.hid (P2.out.grow K3.out)
  have R3 := Lib.hid (R2.out.grow K3.out)
  have B3 := Lib.hid (B2.out.trans (K3.out.mono B2.out.size))
  obtain ⟨d0, d1, d2, d3, d4, d5⟩ := ca_at q3.out
  have hz := q3.out.lt
  clear hb3 k3 K3 q2 P2 R2 B2
  go_wp2_with fail
  refine (pnumber_any _ _ _ _ _ _ ca w3 P3.out ca_fits.k).mono ?_
  rintro e w4 ⟨rfl, hb4⟩
  rw [num_a]
  have q4 := Lib.hid (q3.out.keep hb4 q3.out.lt)
  have P4 := Lib.hid (P3.out.grow hb4)
  have R4 := Lib.hid (R3.out.grow hb4)
  have B4 := Lib.hid (B3.out.trans (hb4.mono B3.out.size))
  clear d0 d1 d2 d3 d4 d5 hz hb4 q3 P3 R3 B3
  obtain ⟨d0, d1, d2, d3, d4, d5⟩ := ca_at q4.out
  have hz := q4.out.lt
  go_wp2_with fail
  refine (pnumber_any _ _ _ _ _ _ ca w4 R4.out ca_fits.k).mono ?_
  rintro e w5 ⟨rfl, hb5⟩
  rw [num_b]
  have q5 := Lib.hid (q4.out.keep hb5 q4.out.lt)
  have P5 := Lib.hid (P4.out.grow hb5)
  have B5 := Lib.hid (B4.out.trans (hb5.mono B4.out.size))
  clear d0 d1 d2 d3 d4 d5 hz hb5 q4 P4 R4 B4
  go_wp2_with fail
  refine (praw_any _ _ _ _ _ _ w5 P5.out (by simp) (by simp [ca_fits, ta_fits])).mono ?_
  rintro e w6 ⟨v6, rfl, hr6, hb6⟩
  obtain ⟨A6, c6, rfl, hV6⟩ := hr6.reads
  rw [raws_a]
  have q6 := Lib.hid (q5.out.keep hb6 q5.out.lt)
  have P6 := Lib.hid (P5.out.grow hb6)
  have B6 := Lib.hid (B5.out.trans (hb6.mono B5.out.size))
  clear hb6 hr6 hV6 q5 P5 B5
  go_wp2_with fail
  refine (praw_any _ _ _ _ _ _ w6 P6.out (by simp) (by simp [ca_fits, ta_fits])).mono ?_
  rintro e w7 ⟨v7, rfl, hr7, hb7⟩
  obtain ⟨A7, c7, rfl, hV7⟩ := hr7.reads
  rw [raws_a] at hV7 ⊢
  have q7 := Lib.hid (q6.out.keep hb7 q6.out.lt)
  have B7 := Lib.hid (B6.out.trans (hb7.mono B6.out.size))
  obtain ⟨g, o, v, rfl, hg, hv, e0, e1, e2, e3, e4⟩ := hV7.at_ (i := 1) (by simp)
  simp at hv
  subst hv
  obtain ⟨d0, d1, d2, d3, d4, d5⟩ := ca_at q7.out
  have hz := q7.out.lt
  clear hb7 hr7 hV7 q6 P6 B6
  have e1' : w7.cell? ⟨g, o + 1 * 5 + 1, none⟩ = some (.string ⟨#[97]⟩) := e1
  clear e1
  go_wp2_with fail
  refine (needs_any ca w7).mono ?_
  rintro e w8 ⟨v8, rfl, hr8, hb8⟩
  obtain ⟨A8, c8, rfl, _⟩ := hr8.reads
  rw [show ca.needs = [ta] from by decide]
  have B8 := Lib.hid (B7.out.trans (hb8.mono B7.out.size))
  clear hb8 hr8
  go_wp2_with fail
  go_ret
  exact ⟨rfl, B8.out⟩
end Go.Proofs.Ytimheacdaafodaa
