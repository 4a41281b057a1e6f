/- The fixed cases of layer 28's law. -/
import Derived.Test.YtekcfjfkbiciaaaTabE
namespace Go.Proofs.Ytekcfjfkbiciaaa
open Go.RowKit Go.Maps

def ta : Pv := Pv.ofText [97]
def ca : Pv := Pv.ofCls [97]
def v2 : Pv := ⟨2, [], 0, [], [], []⟩
theorem ta_lt : Pv.lt ta ca := Or.inl (by decide)
theorem ord_ca : Pv.ord [] [ca] = [ta, ca] := by
  rw [ord_nil]
  refine rises_uniq Pv.lin (sd_rises Pv.lin _) (by simp [ta_lt]) fun x => ?_
  have h : clAll [ca] = [ca, ta] := by decide
  rw [sd_mem Pv.lin, h]
  simp
  constructor
  · rintro (h | h) <;> simp [h]
  · rintro (h | h) <;> simp [h]
theorem err_ca : Pv.errOf [ca] = 0 := by decide
theorem err_v2 : Pv.errOf [v2] = 9 := by decide
theorem ca_fits : ca.fits := by unfold Pv.fits I64 ca Pv.ofCls; decide
theorem v2_fits : v2.fits := by unfold Pv.fits I64 v2; decide
theorem chk_tc : ∀ v ∈ [ta, ca], v.chk 0 9 5 = 0 := by decide
theorem row_tc7 : (Pv.row [ta, ca] 7).length = 1 := by decide
theorem row_tc1 : (Pv.row [ta, ca] 1).length = 1 := by decide
theorem row_tc : (Pv.row [ta, ca] 1)[0]? = some ta := by decide
theorem nums_tc : Pv.nums [ta, ca] [ta, ca].length ca = 0 := by decide
theorem mem_tc : decide (ca ∈ [ta, ca]) = true := by decide
def CaAt (w : World) (g : Nat) : Prop :=
  w.cell? ⟨g, 0, none⟩ = some (.int .i64 7) ∧ w.cell? ⟨g, 1, none⟩ = some (.string ⟨#[97]⟩) ∧ w.cell? ⟨g, 2, none⟩ = some (.int .u64 0) ∧ w.cell? ⟨g, 3, none⟩ = some (.string ⟨#[]⟩) ∧ w.cell? ⟨g, 4, none⟩ = some (.string ⟨#[]⟩) ∧ w.cell? ⟨g, 5, none⟩ = some (.string ⟨#[]⟩)
theorem ca_at {w : World} {g : Nat} (h : VBox w g ca) : CaAt w g := h.at_
set_option maxRecDepth 100000 in
set_option maxHeartbeats 4000000 in
theorem fixed_any (w : World) : Calls Try.prog 4 #[] w fun e w' => e = .returned (.bool true) ∧ Below w.heap.size w w' := by
  have k0 := Lib.hid ((Below.refl w.heap.size w).alloc (Nat.le_refl _) (.cells #[.int .i64 7, .string ⟨#[97]⟩, .int .u64 0, .string ⟨#[]⟩, .string ⟨#[]⟩, .string ⟨#[]⟩] 25))
  have q0 := Lib.hid (show VBox (w.alloc (.cells #[.int .i64 7, .string ⟨#[97]⟩, .int .u64 0, .string ⟨#[]⟩, .string ⟨#[]⟩, .string ⟨#[]⟩] 25)) w.heap.size ca from vbox_new w ca)
  have HO1 := Lib.hid (of_any (some ⟨w.heap.size + 1, 0, none⟩) 1 [ca] _ (vals_one (v := ca) (heap_alloc2_new w (.cells #[.int .i64 7, .string ⟨#[97]⟩, .int .u64 0, .string ⟨#[]⟩, .string ⟨#[]⟩, .string ⟨#[]⟩] 25) (.cells #[.int .i64 7, .string ⟨#[97]⟩, .int .u64 0, .string ⟨#[]⟩, .string ⟨#[]⟩, .string ⟨#[]⟩] 25))) (by simp) (fun e => by cases e) (by simp [ca_fits]))
  go_enter Try.func4, Try.ntmps4
  go_wp2_with fail
  refine HO1.out.mono ?_
  rintro e w1 ⟨⟨h, _⟩ | ⟨_, b, m, n, us, rfl, hT⟩, hb1⟩
  · exact absurd err_ca h
  rw [ord_ca] at hT
  have kx := (Below.refl _ (w.alloc (.cells #[.int .i64 7, .string ⟨#[97]⟩, .int .u64 0, .string ⟨#[]⟩, .string ⟨#[]⟩, .string ⟨#[]⟩] 25))).alloc (Nat.le_refl _) (.cells #[.int .i64 7, .string ⟨#[97]⟩, .int .u64 0, .string ⟨#[]⟩, .string ⟨#[]⟩, .string ⟨#[]⟩] 25)
  have kk := kx.trans (hb1.mono kx.size)
  have K1 := Lib.hid (k0.out.trans (kk.mono k0.out.size))
  have q1 := Lib.hid (q0.out.keep kk q0.out.lt)
  have T1 := Lib.hid hT
  obtain ⟨d0, d1, d2, d3, d4, d5⟩ := ca_at q1.out
  have hz := q1.out.lt
  have HN := Lib.hid (tnumber_any _ b m n us [ta, ca] ca w1 T1.out ca_fits.k)
  clear hT hb1 kx kk k0 q0 HO1
  rw [nums_tc, mem_tc] at HN
  unfold vv at HN
  go_wp2_with fail
  refine HN.out.mono ?_
  rintro e w2 ⟨rfl, hb2⟩
  have K2 := Lib.hid (K1.out.trans (hb2.mono K1.out.size))
  have T2 := Lib.hid (T1.out.grow hb2)
  have HA := Lib.hid (at_in _ b m n us [ta, ca] 1 0 ta w2 T2.out chk_tc row_tc)
  clear hb2 HN K1 q1 T1 d0 d1 d2 d3 d4 d5 hz
  unfold vv at HA
  go_wp2_with fail
  refine HA.out.mono ?_
  rintro e w3 ⟨rfl, hb3⟩
  have K3 := Lib.hid (K2.out.trans (hb3.mono K2.out.size))
  have T3 := Lib.hid (T2.out.grow hb3)
  have k4 := Lib.hid ((Below.refl w3.heap.size w3).alloc (Nat.le_refl _) (.cells #[.int .i64 1, .string ⟨#[97]⟩, .int .u64 0, .string ⟨#[]⟩, .string ⟨#[]⟩, .string ⟨#[]⟩] 25))
  have q4 := Lib.hid (show VBox (w3.alloc (.cells #[.int .i64 1, .string ⟨#[97]⟩, .int .u64 0, .string ⟨#[]⟩, .string ⟨#[]⟩, .string ⟨#[]⟩] 25)) w3.heap.size ta from heap_alloc_new _ _)
  have HO2 := Lib.hid (of_any (some ⟨w3.heap.size + 1, 0, none⟩) 1 [v2] _ (vals_one (v := v2) (heap_alloc2_new w3 (.cells #[.int .i64 1, .string ⟨#[97]⟩, .int .u64 0, .string ⟨#[]⟩, .string ⟨#[]⟩, .string ⟨#[]⟩] 25) (.cells #[.int .i64 2, .string ⟨#[]⟩, .int .u64 0, .string ⟨#[]⟩, .string ⟨#[]⟩, .string ⟨#[]⟩] 25))) (by simp) (fun e => by cases e) (by simp [v2_fits]))
  clear hb3 HA K2 T2
  go_wp2_with fail
  refine HO2.out.mono ?_
  rintro e w5 ⟨⟨h, rfl⟩ | ⟨h, _⟩, hb5⟩
  · rw [err_v2]
    have kx := (Below.refl _ (w3.alloc (.cells #[.int .i64 1, .string ⟨#[97]⟩, .int .u64 0, .string ⟨#[]⟩, .string ⟨#[]⟩, .string ⟨#[]⟩] 25))).alloc (Nat.le_refl _) (.cells #[.int .i64 2, .string ⟨#[]⟩, .int .u64 0, .string ⟨#[]⟩, .string ⟨#[]⟩, .string ⟨#[]⟩] 25)
    have kk := kx.trans (hb5.mono kx.size)
    have K5 := Lib.hid (K3.out.trans ((k4.out.trans (kk.mono k4.out.size)).mono K3.out.size))
    have q5 := Lib.hid (q4.out.keep kk q4.out.lt)
    have T5 := Lib.hid (T3.out.grow (k4.out.trans (kk.mono k4.out.size)))
    have d1 : w5.cell? ⟨w3.heap.size, 1, none⟩ = some (.string ⟨#[97]⟩) := q5.out.at_.2.1
    have hz := q5.out.lt
    have HL7 := Lib.hid (len_any _ b m n us [ta, ca] 7 w5 T5.out chk_tc)
    have HL1 := Lib.hid (len_any _ b m n us [ta, ca] 1 w5 T5.out chk_tc)
    rw [row_tc7] at HL7
    rw [row_tc1] at HL1
    clear hb5 kx kk K3 T3 k4 q4 HO2 h
    go_wp2_with fail
    refine HL7.out.mono ?_
    rintro e x ⟨rfl, rfl⟩
    go_wp2_with fail
    refine HL1.out.mono ?_
    rintro e x ⟨rfl, rfl⟩
    go_wp2_with fail
    go_ret
    exact ⟨rfl, K5.out⟩
  · exact absurd h (by decide)
end Go.Proofs.Ytekcfjfkbiciaaa
