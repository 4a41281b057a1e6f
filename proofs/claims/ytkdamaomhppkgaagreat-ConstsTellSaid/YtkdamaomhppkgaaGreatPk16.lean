/- Joined texts: TabH, TabG, TabC, Cn, Co, View, ViewV. -/
import Derived.Test.YtkdamaomhppkgaaGreatPk15
import Derived.Test.YtkdamaomhppkgaaGreatPk7
import Derived.Test.YtkdamaomhppkgaaGreatPk4
import Derived.Test.YtkdamaomhppkgaaGreatPk2
import Derived.LoopN
import Derived.Test.YtkdamaomhppkgaaGreatPk13
import Derived.Test.YtkdamaomhppkgaaGreatPk14
import Derived.Test.YtkdamaomhppkgaaGreatPk11
import Derived.Test.YtkdamaomhppkgaaGreatPk1
import Derived.Test.YtkdamaomhppkgaaGreatPk8
import Derived.ProofKit
import Derived.OpenShut
import Derived.Deep.Slices
import Derived.SizedLaws
import Derived.ChangeArms
/- The fixed cases of layer 28's law. -/
namespace Go.Proofs.YtkdamaomhppkgaaGreat
open Go.RowKit Go.Maps

def ta : Pv := Pv.ofText [97]
def ca : Pv := Pv.ofCls [97]
def v2 : Pv := ⟨2, [], 0, [], [], []⟩
theorem ta_lt : Pv.lt ta ca := Or.inl (by decide)
theorem ord_ca : Pv.ord [] [ca] = [ta, ca] := by
  rw [ord_nil]
  refine rises_uniq Pv.lin (sd_rises Pv.lin _) (by simp [ta_lt]) fun x => ?_
  have h : clAll [ca] = [ca, ta] := by decide
  rw [sd_mem Pv.lin, h]
  simp
  constructor
  · rintro (h | h) <;> simp [h]
  · rintro (h | h) <;> simp [h]
theorem err_ca : Pv.errOf [ca] = 0 := by decide
theorem err_v2 : Pv.errOf [v2] = 9 := by decide
theorem ca_fits : ca.fits := by unfold Pv.fits I64 ca Pv.ofCls; decide
theorem v2_fits : v2.fits := by unfold Pv.fits I64 v2; decide
theorem chk_tc : ∀ v ∈ [ta, ca], v.chk 0 9 5 = 0 := by decide
theorem row_tc7 : (Pv.row [ta, ca] 7).length = 1 := by decide
theorem row_tc1 : (Pv.row [ta, ca] 1).length = 1 := by decide
theorem row_tc : (Pv.row [ta, ca] 1)[0]? = some ta := by decide
theorem nums_tc : Pv.nums [ta, ca] [ta, ca].length ca = 0 := by decide
theorem mem_tc : decide (ca ∈ [ta, ca]) = true := by decide
def CaAt (w : World) (g : Nat) : Prop :=
  w.cell? ⟨g, 0, none⟩ = some (.int .i64 7) ∧ w.cell? ⟨g, 1, none⟩ = some (.string ⟨#[97]⟩) ∧ w.cell? ⟨g, 2, none⟩ = some (.int .u64 0) ∧ w.cell? ⟨g, 3, none⟩ = some (.string ⟨#[]⟩) ∧ w.cell? ⟨g, 4, none⟩ = some (.string ⟨#[]⟩) ∧ w.cell? ⟨g, 5, none⟩ = some (.string ⟨#[]⟩)
theorem ca_at {w : World} {g : Nat} (h : VBox w g ca) : CaAt w g := h.at_
set_option maxRecDepth 100000 in
set_option maxHeartbeats 4000000 in
theorem fixed_any (w : World) : Calls Tryz.prog 5 #[] w fun e w' => e = .returned (.bool true) ∧ Below w.heap.size w w' := by
  have k0 := Lib.hid ((Below.refl w.heap.size w).alloc (Nat.le_refl _) (.cells #[.int .i64 7, .string ⟨#[97]⟩, .int .u64 0, .string ⟨#[]⟩, .string ⟨#[]⟩, .string ⟨#[]⟩] 36))
  have q0 := Lib.hid (show VBox (w.alloc (.cells #[.int .i64 7, .string ⟨#[97]⟩, .int .u64 0, .string ⟨#[]⟩, .string ⟨#[]⟩, .string ⟨#[]⟩] 36)) w.heap.size ca from vbox_new w ca)
  have HO1 := Lib.hid (of_any (some ⟨w.heap.size + 1, 0, none⟩) 1 [ca] _ (vals_one (v := ca) (heap_alloc2_new w (.cells #[.int .i64 7, .string ⟨#[97]⟩, .int .u64 0, .string ⟨#[]⟩, .string ⟨#[]⟩, .string ⟨#[]⟩] 36) (.cells #[.int .i64 7, .string ⟨#[97]⟩, .int .u64 0, .string ⟨#[]⟩, .string ⟨#[]⟩, .string ⟨#[]⟩] 36))) (by simp) (fun e => by cases e) (by simp [ca_fits]))
  go_enter Tryz.func5, Tryz.ntmps5
  go_wp2_with fail
  refine HO1.out.mono ?_
  rintro e w1 ⟨⟨h, _⟩ | ⟨_, b, m, n, us, rfl, hT⟩, hb1⟩
  · exact absurd err_ca h
  rw [ord_ca] at hT
  have kx := (Below.refl _ (w.alloc (.cells #[.int .i64 7, .string ⟨#[97]⟩, .int .u64 0, .string ⟨#[]⟩, .string ⟨#[]⟩, .string ⟨#[]⟩] 36))).alloc (Nat.le_refl _) (.cells #[.int .i64 7, .string ⟨#[97]⟩, .int .u64 0, .string ⟨#[]⟩, .string ⟨#[]⟩, .string ⟨#[]⟩] 36)
  have kk := kx.trans (hb1.mono kx.size)
  have K1 := Lib.hid (k0.out.trans (kk.mono k0.out.size))
  have q1 := Lib.hid (q0.out.keep kk q0.out.lt)
  have T1 := Lib.hid hT
  obtain ⟨d0, d1, d2, d3, d4, d5⟩ := ca_at q1.out
  have hz := q1.out.lt
  have HN := Lib.hid (tnumber_any _ b m n us [ta, ca] ca w1 T1.out ca_fits.k)
  clear hT hb1 kx kk k0 q0 HO1
  rw [nums_tc, mem_tc] at HN
  unfold vv at HN
  go_wp2_with fail
  refine HN.out.mono ?_
  rintro e w2 ⟨rfl, hb2⟩
  have K2 := Lib.hid (K1.out.trans (hb2.mono K1.out.size))
  have T2 := Lib.hid (T1.out.grow hb2)
  have HA := Lib.hid (at_in _ b m n us [ta, ca] 1 0 ta w2 T2.out chk_tc row_tc)
  clear hb2 HN K1 q1 T1 d0 d1 d2 d3 d4 d5 hz
  unfold vv at HA
  go_wp2_with fail
  refine HA.out.mono ?_
  rintro e w3 ⟨rfl, hb3⟩
  have K3 := Lib.hid (K2.out.trans (hb3.mono K2.out.size))
  have T3 := Lib.hid (T2.out.grow hb3)
  have k4 := Lib.hid ((Below.refl w3.heap.size w3).alloc (Nat.le_refl _) (.cells #[.int .i64 1, .string ⟨#[97]⟩, .int .u64 0, .string ⟨#[]⟩, .string ⟨#[]⟩, .string ⟨#[]⟩] 36))
  have q4 := Lib.hid (show VBox (w3.alloc (.cells #[.int .i64 1, .string ⟨#[97]⟩, .int .u64 0, .string ⟨#[]⟩, .string ⟨#[]⟩, .string ⟨#[]⟩] 36)) w3.heap.size ta from heap_alloc_new _ _)
  have HO2 := Lib.hid (of_any (some ⟨w3.heap.size + 1, 0, none⟩) 1 [v2] _ (vals_one (v := v2) (heap_alloc2_new w3 (.cells #[.int .i64 1, .string ⟨#[97]⟩, .int .u64 0, .string ⟨#[]⟩, .string ⟨#[]⟩, .string ⟨#[]⟩] 36) (.cells #[.int .i64 2, .string ⟨#[]⟩, .int .u64 0, .string ⟨#[]⟩, .string ⟨#[]⟩, .string ⟨#[]⟩] 36))) (by simp) (fun e => by cases e) (by simp [v2_fits]))
  clear hb3 HA K2 T2
  go_wp2_with fail
  refine HO2.out.mono ?_
  rintro e w5 ⟨⟨h, rfl⟩ | ⟨h, _⟩, hb5⟩
  · rw [err_v2]
    have kx := (Below.refl _ (w3.alloc (.cells #[.int .i64 1, .string ⟨#[97]⟩, .int .u64 0, .string ⟨#[]⟩, .string ⟨#[]⟩, .string ⟨#[]⟩] 36))).alloc (Nat.le_refl _) (.cells #[.int .i64 2, .string ⟨#[]⟩, .int .u64 0, .string ⟨#[]⟩, .string ⟨#[]⟩, .string ⟨#[]⟩] 36)
    have kk := kx.trans (hb5.mono kx.size)
    have K5 := Lib.hid (K3.out.trans ((k4.out.trans (kk.mono k4.out.size)).mono K3.out.size))
    have q5 := Lib.hid (q4.out.keep kk q4.out.lt)
    have T5 := Lib.hid (T3.out.grow (k4.out.trans (kk.mono k4.out.size)))
    have d1 : w5.cell? ⟨w3.heap.size, 1, none⟩ = some (.string ⟨#[97]⟩) := q5.out.at_.2.1
    have hz := q5.out.lt
    have HL7 := Lib.hid (len_any _ b m n us [ta, ca] 7 w5 T5.out chk_tc)
    have HL1 := Lib.hid (len_any _ b m n us [ta, ca] 1 w5 T5.out chk_tc)
    rw [row_tc7] at HL7
    rw [row_tc1] at HL1
    clear hb5 kx kk K3 T3 k4 q4 HO2 h
    go_wp2_with fail
    refine HL7.out.mono ?_
    rintro e x ⟨rfl, rfl⟩
    go_wp2_with fail
    refine HL1.out.mono ?_
    rintro e x ⟨rfl, rfl⟩
    go_wp2_with fail
    go_ret
    exact ⟨rfl, K5.out⟩
  · exact absurd h (by decide)
end Go.Proofs.YtkdamaomhppkgaaGreat

/- The walk of layer 28's first law: does a table have just these values, with their numbers. -/
namespace Go.Proofs.YtkdamaomhppkgaaGreat
open Go.RowKit Go.Maps

/-- The thirteen counts. -/
def ct (O : List Pv) (t : Nat) : Value := .int .i64 ((Pv.row O (t : Int)).length : Nat)
def cnt (O : List Pv) : Array Value := #[ct O 0, ct O 1, ct O 2, ct O 3, ct O 4, ct O 5, ct O 6, ct O 7, ct O 8, ct O 9, ct O 10, ct O 11, ct O 12]
theorem cnt_size (O : List Pv) : (cnt O).size = 13 := rfl
theorem cnt_at (O : List Pv) {t : Nat} (ht : t < 13) : (cnt O)[t]? = some (.int .i64 ((Pv.row O (t : Int)).length : Nat)) := by
  obtain rfl | rfl | rfl | rfl | rfl | rfl | rfl | rfl | rfl | rfl | rfl | rfl | rfl : t = 0 ∨ t = 1 ∨ t = 2 ∨ t = 3 ∨ t = 4 ∨ t = 5 ∨ t = 6 ∨ t = 7 ∨ t = 8 ∨ t = 9 ∨ t = 10 ∨ t = 11 ∨ t = 12 := by omega
  all_goals rfl
theorem cnt_nil : cnt [] = #[.int .i64 0, .int .i64 0, .int .i64 0, .int .i64 0, .int .i64 0, .int .i64 0, .int .i64 0, .int .i64 0, .int .i64 0, .int .i64 0, .int .i64 0, .int .i64 0, .int .i64 0] := rfl
theorem cnt_next {O : List Pv} {i t : Nat} {v : Pv} (hv : O[i]? = some v) (ht : v.tag = (t : Int)) (h13 : t < 13) : (cnt (O.take i)).setIfInBounds t (.int .i64 (((Pv.row (O.take i) t).length : Nat) + 1)) = cnt (O.take (i + 1)) := by
  apply Array.ext_getElem?
  intro k
  rw [Array.getElem?_setIfInBounds]
  by_cases hk : k < 13
  · rw [cnt_at _ hk, cnt_at _ hk, row_snoc hv]
    by_cases e : t = k
    · subst e
      rw [if_pos rfl, if_pos (by rw [cnt_size]; exact hk), if_pos ht]
      simp
    · rw [if_neg e, if_neg (fun h => e (by omega)), List.append_nil]
  · have h1 : (cnt (O.take i))[k]? = none := Array.getElem?_eq_none (by rw [cnt_size]; omega)
    have h2 : (cnt (O.take (i + 1)))[k]? = none := Array.getElem?_eq_none (by rw [cnt_size]; omega)
    rw [h1, h2, if_neg (by omega)]
theorem ix0 (x0 x1 x2 x3 x4 x5 x6 x7 x8 x9 x10 x11 x12 : Int) (w : World) : (Instr.index 83 (.agg #[.int .i64 x0, .int .i64 x1, .int .i64 x2, .int .i64 x3, .int .i64 x4, .int .i64 x5, .int .i64 x6, .int .i64 x7, .int .i64 x8, .int .i64 x9, .int .i64 x10, .int .i64 x11, .int .i64 x12]) (.int .i64 0)).run Tryz.prog w = .ok (.int .i64 x0) w := by kernel_rfl
theorem ix1 (x0 x1 x2 x3 x4 x5 x6 x7 x8 x9 x10 x11 x12 : Int) (w : World) : (Instr.index 83 (.agg #[.int .i64 x0, .int .i64 x1, .int .i64 x2, .int .i64 x3, .int .i64 x4, .int .i64 x5, .int .i64 x6, .int .i64 x7, .int .i64 x8, .int .i64 x9, .int .i64 x10, .int .i64 x11, .int .i64 x12]) (.int .i64 1)).run Tryz.prog w = .ok (.int .i64 x1) w := by kernel_rfl
theorem ix2 (x0 x1 x2 x3 x4 x5 x6 x7 x8 x9 x10 x11 x12 : Int) (w : World) : (Instr.index 83 (.agg #[.int .i64 x0, .int .i64 x1, .int .i64 x2, .int .i64 x3, .int .i64 x4, .int .i64 x5, .int .i64 x6, .int .i64 x7, .int .i64 x8, .int .i64 x9, .int .i64 x10, .int .i64 x11, .int .i64 x12]) (.int .i64 2)).run Tryz.prog w = .ok (.int .i64 x2) w := by kernel_rfl
theorem ix3 (x0 x1 x2 x3 x4 x5 x6 x7 x8 x9 x10 x11 x12 : Int) (w : World) : (Instr.index 83 (.agg #[.int .i64 x0, .int .i64 x1, .int .i64 x2, .int .i64 x3, .int .i64 x4, .int .i64 x5, .int .i64 x6, .int .i64 x7, .int .i64 x8, .int .i64 x9, .int .i64 x10, .int .i64 x11, .int .i64 x12]) (.int .i64 3)).run Tryz.prog w = .ok (.int .i64 x3) w := by kernel_rfl
theorem ix4 (x0 x1 x2 x3 x4 x5 x6 x7 x8 x9 x10 x11 x12 : Int) (w : World) : (Instr.index 83 (.agg #[.int .i64 x0, .int .i64 x1, .int .i64 x2, .int .i64 x3, .int .i64 x4, .int .i64 x5, .int .i64 x6, .int .i64 x7, .int .i64 x8, .int .i64 x9, .int .i64 x10, .int .i64 x11, .int .i64 x12]) (.int .i64 4)).run Tryz.prog w = .ok (.int .i64 x4) w := by kernel_rfl
theorem ix5 (x0 x1 x2 x3 x4 x5 x6 x7 x8 x9 x10 x11 x12 : Int) (w : World) : (Instr.index 83 (.agg #[.int .i64 x0, .int .i64 x1, .int .i64 x2, .int .i64 x3, .int .i64 x4, .int .i64 x5, .int .i64 x6, .int .i64 x7, .int .i64 x8, .int .i64 x9, .int .i64 x10, .int .i64 x11, .int .i64 x12]) (.int .i64 5)).run Tryz.prog w = .ok (.int .i64 x5) w := by kernel_rfl
theorem ix6 (x0 x1 x2 x3 x4 x5 x6 x7 x8 x9 x10 x11 x12 : Int) (w : World) : (Instr.index 83 (.agg #[.int .i64 x0, .int .i64 x1, .int .i64 x2, .int .i64 x3, .int .i64 x4, .int .i64 x5, .int .i64 x6, .int .i64 x7, .int .i64 x8, .int .i64 x9, .int .i64 x10, .int .i64 x11, .int .i64 x12]) (.int .i64 6)).run Tryz.prog w = .ok (.int .i64 x6) w := by kernel_rfl
theorem ix7 (x0 x1 x2 x3 x4 x5 x6 x7 x8 x9 x10 x11 x12 : Int) (w : World) : (Instr.index 83 (.agg #[.int .i64 x0, .int .i64 x1, .int .i64 x2, .int .i64 x3, .int .i64 x4, .int .i64 x5, .int .i64 x6, .int .i64 x7, .int .i64 x8, .int .i64 x9, .int .i64 x10, .int .i64 x11, .int .i64 x12]) (.int .i64 7)).run Tryz.prog w = .ok (.int .i64 x7) w := by kernel_rfl
theorem ix8 (x0 x1 x2 x3 x4 x5 x6 x7 x8 x9 x10 x11 x12 : Int) (w : World) : (Instr.index 83 (.agg #[.int .i64 x0, .int .i64 x1, .int .i64 x2, .int .i64 x3, .int .i64 x4, .int .i64 x5, .int .i64 x6, .int .i64 x7, .int .i64 x8, .int .i64 x9, .int .i64 x10, .int .i64 x11, .int .i64 x12]) (.int .i64 8)).run Tryz.prog w = .ok (.int .i64 x8) w := by kernel_rfl
theorem ix9 (x0 x1 x2 x3 x4 x5 x6 x7 x8 x9 x10 x11 x12 : Int) (w : World) : (Instr.index 83 (.agg #[.int .i64 x0, .int .i64 x1, .int .i64 x2, .int .i64 x3, .int .i64 x4, .int .i64 x5, .int .i64 x6, .int .i64 x7, .int .i64 x8, .int .i64 x9, .int .i64 x10, .int .i64 x11, .int .i64 x12]) (.int .i64 9)).run Tryz.prog w = .ok (.int .i64 x9) w := by kernel_rfl
theorem ix10 (x0 x1 x2 x3 x4 x5 x6 x7 x8 x9 x10 x11 x12 : Int) (w : World) : (Instr.index 83 (.agg #[.int .i64 x0, .int .i64 x1, .int .i64 x2, .int .i64 x3, .int .i64 x4, .int .i64 x5, .int .i64 x6, .int .i64 x7, .int .i64 x8, .int .i64 x9, .int .i64 x10, .int .i64 x11, .int .i64 x12]) (.int .i64 10)).run Tryz.prog w = .ok (.int .i64 x10) w := by kernel_rfl
theorem ix11 (x0 x1 x2 x3 x4 x5 x6 x7 x8 x9 x10 x11 x12 : Int) (w : World) : (Instr.index 83 (.agg #[.int .i64 x0, .int .i64 x1, .int .i64 x2, .int .i64 x3, .int .i64 x4, .int .i64 x5, .int .i64 x6, .int .i64 x7, .int .i64 x8, .int .i64 x9, .int .i64 x10, .int .i64 x11, .int .i64 x12]) (.int .i64 11)).run Tryz.prog w = .ok (.int .i64 x11) w := by kernel_rfl
theorem ix12 (x0 x1 x2 x3 x4 x5 x6 x7 x8 x9 x10 x11 x12 : Int) (w : World) : (Instr.index 83 (.agg #[.int .i64 x0, .int .i64 x1, .int .i64 x2, .int .i64 x3, .int .i64 x4, .int .i64 x5, .int .i64 x6, .int .i64 x7, .int .i64 x8, .int .i64 x9, .int .i64 x10, .int .i64 x11, .int .i64 x12]) (.int .i64 12)).run Tryz.prog w = .ok (.int .i64 x12) w := by kernel_rfl
theorem cnt_box {w : World} {B : Nat} {O : List Pv} (h : w.heap[B]? = some (.cells (cnt O) 83 (0, 0))) {t : Nat} (ht : t < 13) : w.cell? ⟨B, t, none⟩ = some (.int .i64 ((Pv.row O (t : Int)).length : Nat)) ∧ w.frozen? ⟨B, t, none⟩ = false :=
  ⟨((blk_facts h).1 t).trans (cnt_at O ht), (blk_facts h).2 t⟩
set_option maxRecDepth 100000 in
set_option maxHeartbeats 4000000 in
theorem tells_any (base b m n : Nat) (us : Nat → Value) (O : List Pv) (A : Option Addr) (c : Nat) (w : World) (h : TabOf w base b m n us O) (hV : Vals w A c O) (hok : ∀ v ∈ O, v.chk 0 9 5 = 0) (hf : ∀ v ∈ O, v.fits) (hnd : O.Nodup) (hO : O.length ≤ 100000) :
    Calls Tryz.prog 14 #[.pointer (some ⟨b, 0, none⟩), .slice A O.length c] w fun e w' => e = .returned (.bool true) ∧ Below w.heap.size w w' := by
  have HT := Lib.hid h
  have HV := Lib.hid hV
  have HOK := Lib.hid hok
  have HF := Lib.hid hf
  have HND := Lib.hid hnd
  clear h hV hok hf hnd
  have k0 := Lib.hid ((Below.refl w.heap.size w).alloc (Nat.le_refl _) (.cells (cnt []) 83))
  have q0 := Lib.hid (show (w.alloc (.cells (cnt []) 83)).heap[w.heap.size]? = some (.cells (cnt (O.take 0)) 83 (0, 0)) from heap_alloc_new _ _)
  rw [cnt_nil] at k0
  go_enter Tryz.func14, Tryz.ntmps14
  go_wp2_with fail
  rw [← cnt_nil] at k0
  rw [← cnt_nil]
  generalize w.alloc (.cells (cnt []) 83) = W at k0 q0 ⊢
  go_loopw [16] (fun t wr => ∃ i : Nat, i ≤ O.length ∧ t = .int .i64 i ∧ wr.heap[w.heap.size]? = some (.cells (cnt (O.take i)) 83 (0, 0)) ∧ Below w.heap.size w wr) (fun t _ => O.length - (intOf t).toNat)
  case atStart => exact ⟨0, Nat.zero_le _, rfl, q0.out, k0.out⟩
  case round =>
    obtain ⟨i, hil, rfl, hq, hB⟩ := hrel
    have MQ := Lib.hid hq
    have MB := Lib.hid hB
    clear hq hB q0 k0
    by_cases hi : i < O.length
    · obtain ⟨g, o, v, rfl, hg, hv, c0, c1, c2, c3, c4, c5⟩ := (HV.out.grow MB.out).at_ hi
      obtain ⟨tag, text, bits, cls, name, desc⟩ := v
      have hm := List.mem_of_getElem? hv
      have htg := chk_tag (HOK.out _ hm)
      dsimp only at htg c0 c1 c2 c3 c4 c5
      obtain ⟨t, rfl⟩ : ∃ t : Nat, tag = (t : Int) := ⟨tag.toNat, by omega⟩
      have ht13 : t < 13 := by omega
      have p1 : decide ((i : Int) < (O.length : Int)) = true := decide_eq_true (by omega)
      have p2 : decide (i < O.length) = true := decide_eq_true hi
      have hrk := rk_take HND.out hv
      have HNX := Lib.hid (cnt_next hv rfl ht13)
      have hget := row_get hm
      have k1 := Lib.hid ((Below.refl wr.heap.size wr).alloc (Nat.le_refl _) (.cells #[.int .i64 (t : Int), .string (bs text), .int .u64 bits, .string (bs cls), .string (bs name), .string (bs desc)] 36))
      have q1 := Lib.hid (show VBox (wr.alloc (.cells #[.int .i64 (t : Int), .string (bs text), .int .u64 bits, .string (bs cls), .string (bs name), .string (bs desc)] 36)) wr.heap.size (⟨(t : Int), text, bits, cls, name, desc⟩ : Pv) from heap_alloc_new _ _)
      have B1 := Lib.hid (MB.out.trans (k1.out.mono MB.out.size))
      have hnum := tnumber_any base b m n us O (⟨(t : Int), text, bits, cls, name, desc⟩ : Pv) _ (HT.out.grow B1.out) (HF.out _ hm).k
      rw [nums_all, if_pos hm, decide_eq_true hm] at hnum
      unfold vv at hnum
      have HN := Lib.hid hnum
      have hat := fun (y : World) (k : Below w.heap.size w y) => at_in base b m n us O (t : Int) _ (⟨(t : Int), text, bits, cls, name, desc⟩ : Pv) y (HT.out.grow k) HOK.out hget
      unfold vv at hat
      have HA := Lib.hid hat
      have hex := fun x => (eq_val (⟨(t : Int), text, bits, cls, name, desc⟩ : Pv) (⟨(t : Int), text, bits, cls, name, desc⟩ : Pv) x).trans (by rw [decide_eq_true rfl])
      unfold vv at hex
      have he := hex
      have HRK := Lib.hid hrk
      have hrl := row_len (O.take i) (t : Int)
      rw [List.length_take] at hrl
      clear hv hm htg hget hnum hat hex hrk
      dsimp only at he
      generalize Pv.rk O (⟨(t : Int), text, bits, cls, name, desc⟩ : Pv) = r at *
      go_wp2_with fail
      refine HN.out.mono ?_
      rintro e x2 ⟨rfl, hb2⟩
      have B2 := Lib.hid (B1.out.trans (hb2.mono B1.out.size))
      have q2 := Lib.hid (q1.out.keep hb2 q1.out.lt)
      have k2 := Lib.hid (k1.out.trans (hb2.mono k1.out.size))
      obtain ⟨d0, d1, d2, d3, d4, d5⟩ := VBox.at_ (v := (⟨(t : Int), text, bits, cls, name, desc⟩ : Pv)) q2.out
      have hz : wr.heap.size < x2.heap.size := (Array.getElem?_eq_some_iff.1 q2.out).1
      dsimp only at d0 d1 d2 d3 d4 d5
      clear hb2 HN B1 q1 k1 c0 c1 c2 c3 c4 c5
      go_wp2_with fail
      refine (HA.out x2 B2.out).mono ?_
      rintro e x3 ⟨rfl, hb3⟩
      have B3 := Lib.hid (B2.out.trans (hb3.mono B2.out.size))
      have q3 := Lib.hid (VBox.keep (v := (⟨(t : Int), text, bits, cls, name, desc⟩ : Pv)) q2.out hb3 hz)
      have k3 := Lib.hid (k2.out.trans (hb3.mono k2.out.size))
      clear d0 d1 d2 d3 d4 d5 hz hb3 HA B2 q2 k2
      obtain ⟨d0, d1, d2, d3, d4, d5⟩ := VBox.at_ (v := (⟨(t : Int), text, bits, cls, name, desc⟩ : Pv)) q3.out
      have hz : wr.heap.size < x3.heap.size := (Array.getElem?_eq_some_iff.1 q3.out).1
      dsimp only at d0 d1 d2 d3 d4 d5
      have kw := Lib.hid ((Below.refl x3.heap.size x3).alloc (Nat.le_refl _) (.cells #[.int .i64 (t : Int), .string (bs text), .int .u64 bits, .string (bs cls), .string (bs name), .string (bs desc)] 36))
      have hwq : w.heap.size < wr.heap.size := (Array.getElem?_eq_some_iff.1 MQ.out).1
      have hq3 := (k3.out.block w.heap.size hwq).trans MQ.out
      obtain ⟨a0, a1⟩ := cnt_box hq3 ht13
      have hrk2 := HRK.out
      rw [← hrk2] at a0
      have i1 : (t : Int) < 13 := by omega
      have i2 : decide (t < 13) = true := decide_eq_true ht13
      have hwx : w.heap.size < x3.heap.size := by omega
      have HQ3 := Lib.hid hq3
      have hrb : r ≤ 100000 := by have h := HRK.out; omega
      clear hq3 hrk2 kw
      go_wp2_with fail
      have hqs : (x3.setCell ⟨w.heap.size, t, none⟩ (.int .i64 ((r : Int) + 1))).heap[w.heap.size]? = some (.cells (cnt (O.take (i + 1))) 83 (0, 0)) := tbox_set HQ3.out _ (by
        have h := HNX.out
        have h2 := HRK.out
        rw [← h2] at h
        exact h)
      have NQ := Lib.hid (show ((x3.setCell ⟨w.heap.size, t, none⟩ (.int .i64 ((r : Int) + 1))).alloc (.cells #[.int .i64 (t : Int), .string (bs text), .int .u64 bits, .string (bs cls), .string (bs name), .string (bs desc)] 36)).heap[w.heap.size]? = some (.cells (cnt (O.take (i + 1))) 83 (0, 0)) from (heap_alloc_old _ _ (Array.getElem?_eq_some_iff.1 hqs).1).trans hqs)
      have hBs := B3.out.setCell (p := ⟨w.heap.size, t, none⟩) (Nat.le_refl _) (.int .i64 ((r : Int) + 1))
      have NB := Lib.hid (show Below w.heap.size w ((x3.setCell ⟨w.heap.size, t, none⟩ (.int .i64 ((r : Int) + 1))).alloc (.cells #[.int .i64 (t : Int), .string (bs text), .int .u64 bits, .string (bs cls), .string (bs name), .string (bs desc)] 36)) from hBs.alloc hBs.size _)
      go_roundw
      case rel => exact ⟨i + 1, by omega, by go_num, NQ.out, NB.out⟩
      case measure => simp [intOf]; omega
    · obtain rfl : i = O.length := by omega
      have p1 : decide ((O.length : Int) < (O.length : Int)) = false := decide_eq_false (by omega)
      have p2 : decide (O.length < O.length) = false := decide_eq_false (by omega)
      rw [List.take_length] at MQ
      have HLN := Lib.hid (fun (tag : Int) => len_any base b m n us O tag wr (HT.out.grow MB.out) HOK.out)
      have a0 : wr.cell? ⟨w.heap.size, 0, none⟩ = some (.int .i64 (((Pv.row O 0).length : Nat) : Int)) := (cnt_box MQ.out (t := 0) (by omega)).1
      have a1 : wr.cell? ⟨w.heap.size, 1, none⟩ = some (.int .i64 (((Pv.row O 1).length : Nat) : Int)) := (cnt_box MQ.out (t := 1) (by omega)).1
      have a2 : wr.cell? ⟨w.heap.size, 2, none⟩ = some (.int .i64 (((Pv.row O 2).length : Nat) : Int)) := (cnt_box MQ.out (t := 2) (by omega)).1
      have a3 : wr.cell? ⟨w.heap.size, 3, none⟩ = some (.int .i64 (((Pv.row O 3).length : Nat) : Int)) := (cnt_box MQ.out (t := 3) (by omega)).1
      have a4 : wr.cell? ⟨w.heap.size, 4, none⟩ = some (.int .i64 (((Pv.row O 4).length : Nat) : Int)) := (cnt_box MQ.out (t := 4) (by omega)).1
      have a5 : wr.cell? ⟨w.heap.size, 5, none⟩ = some (.int .i64 (((Pv.row O 5).length : Nat) : Int)) := (cnt_box MQ.out (t := 5) (by omega)).1
      have a6 : wr.cell? ⟨w.heap.size, 6, none⟩ = some (.int .i64 (((Pv.row O 6).length : Nat) : Int)) := (cnt_box MQ.out (t := 6) (by omega)).1
      have a7 : wr.cell? ⟨w.heap.size, 7, none⟩ = some (.int .i64 (((Pv.row O 7).length : Nat) : Int)) := (cnt_box MQ.out (t := 7) (by omega)).1
      have a8 : wr.cell? ⟨w.heap.size, 8, none⟩ = some (.int .i64 (((Pv.row O 8).length : Nat) : Int)) := (cnt_box MQ.out (t := 8) (by omega)).1
      have a9 : wr.cell? ⟨w.heap.size, 9, none⟩ = some (.int .i64 (((Pv.row O 9).length : Nat) : Int)) := (cnt_box MQ.out (t := 9) (by omega)).1
      have a10 : wr.cell? ⟨w.heap.size, 10, none⟩ = some (.int .i64 (((Pv.row O 10).length : Nat) : Int)) := (cnt_box MQ.out (t := 10) (by omega)).1
      have a11 : wr.cell? ⟨w.heap.size, 11, none⟩ = some (.int .i64 (((Pv.row O 11).length : Nat) : Int)) := (cnt_box MQ.out (t := 11) (by omega)).1
      have a12 : wr.cell? ⟨w.heap.size, 12, none⟩ = some (.int .i64 (((Pv.row O 12).length : Nat) : Int)) := (cnt_box MQ.out (t := 12) (by omega)).1
      have hz := (Array.getElem?_eq_some_iff.1 MQ.out).1
      go_wp2_with fail
      have j0 := ix0
      have j1 := ix1
      have j2 := ix2
      have j3 := ix3
      have j4 := ix4
      have j5 := ix5
      have j6 := ix6
      have j7 := ix7
      have j8 := ix8
      have j9 := ix9
      have j10 := ix10
      have j11 := ix11
      have j12 := ix12
      refine wp_loop_rounds 14 ?_
      rw [rounds_succ]
      go_wp2_with fail
      refine (HLN.out 0).mono ?_
      rintro e x ⟨rfl, rfl⟩
      go_wp2_with fail
      rw [rounds_succ]
      go_wp2_with fail
      refine (HLN.out 1).mono ?_
      rintro e x ⟨rfl, rfl⟩
      go_wp2_with fail
      rw [rounds_succ]
      go_wp2_with fail
      refine (HLN.out 2).mono ?_
      rintro e x ⟨rfl, rfl⟩
      go_wp2_with fail
      rw [rounds_succ]
      go_wp2_with fail
      refine (HLN.out 3).mono ?_
      rintro e x ⟨rfl, rfl⟩
      go_wp2_with fail
      rw [rounds_succ]
      go_wp2_with fail
      refine (HLN.out 4).mono ?_
      rintro e x ⟨rfl, rfl⟩
      go_wp2_with fail
      rw [rounds_succ]
      go_wp2_with fail
      refine (HLN.out 5).mono ?_
      rintro e x ⟨rfl, rfl⟩
      go_wp2_with fail
      rw [rounds_succ]
      go_wp2_with fail
      refine (HLN.out 6).mono ?_
      rintro e x ⟨rfl, rfl⟩
      go_wp2_with fail
      rw [rounds_succ]
      go_wp2_with fail
      refine (HLN.out 7).mono ?_
      rintro e x ⟨rfl, rfl⟩
      go_wp2_with fail
      rw [rounds_succ]
      go_wp2_with fail
      refine (HLN.out 8).mono ?_
      rintro e x ⟨rfl, rfl⟩
      go_wp2_with fail
      rw [rounds_succ]
      go_wp2_with fail
      refine (HLN.out 9).mono ?_
      rintro e x ⟨rfl, rfl⟩
      go_wp2_with fail
      rw [rounds_succ]
      go_wp2_with fail
      refine (HLN.out 10).mono ?_
      rintro e x ⟨rfl, rfl⟩
      go_wp2_with fail
      rw [rounds_succ]
      go_wp2_with fail
      refine (HLN.out 11).mono ?_
      rintro e x ⟨rfl, rfl⟩
      go_wp2_with fail
      rw [rounds_succ]
      go_wp2_with fail
      refine (HLN.out 12).mono ?_
      rintro e x ⟨rfl, rfl⟩
      go_wp2_with fail
      rw [rounds_succ]
      go_wp2_with fail
      go_ret
      exact ⟨rfl, MB.out⟩
end Go.Proofs.YtkdamaomhppkgaaGreat

/- The walk of layer 28's first law: all that values need, each once, by the document's order. -/
namespace Go.Proofs.YtkdamaomhppkgaaGreat
open Go.RowKit

/-- What the document's closure comes to. -/
def ClosedOk (l : List Pv) (w : World) (e : Ending) (w' : World) : Prop :=
  (Pv.errOf l ≠ 0 ∧ e = .returned (.tuple #[.slice none 0 0, .int .i64 (Pv.errOf l)]) ∨
   Pv.errOf l = 0 ∧ ∃ u, e = .returned (.tuple #[u, .int .i64 0]) ∧ VRow w' w.heap.size u (Pv.ord [] l)) ∧ Below w.heap.size w w'
theorem slots_len2 (O : List Pv) : (Pv.slots O).length ≤ 2 * O.length + 1 := by
  unfold Pv.slots
  rw [List.length_cons]
  have : (O.flatMap Pv.slot).length ≤ 2 * O.length := by
    induction O with
    | nil => simp
    | cons x O ih =>
      have : x.slot.length ≤ 2 := by unfold Pv.slot; split <;> simp
      simp only [List.flatMap_cons, List.length_append, List.length_cons]; omega
  omega
/-- One value of the order more. -/
theorem dd_step {S : List Pv} {i : Nat} {v p : Pv} {acc X : List Pv} {first : Bool} (hv : S[i]? = some v) (h : acc ++ Pv.dd p first (S.drop i) = X) :
    (acc ++ (if first = true ∨ v ≠ p then [v] else [])) ++ Pv.dd v false (S.drop (i + 1)) = X := by
  obtain ⟨h1, rfl⟩ := List.getElem?_eq_some_iff.1 hv
  rw [List.drop_eq_getElem_cons h1] at h
  rw [← h, List.append_assoc]
  rfl
set_option maxRecDepth 100000 in
set_option maxHeartbeats 4000000 in
theorem closed_any (B : Option Addr) (d : Nat) (l : List Pv) (w : World) (hy : Vals w B d l) (hm : l.length ≤ 1000) (_hf : ∀ v ∈ l, v.fits) :
    Calls Tryz.prog 7 #[.slice B l.length d] w (ClosedOk l w) := by
  have HO := Lib.hid (order_any none B 0 d [] l w (Vals.nil _ _ _) hy (by simp) (by omega))
  have hol := ord_len [] l
  have hnd := Pv.ord_nodup [] l
  rw [List.length_nil] at hol
  clear hy _hf
  unfold ClosedOk
  go_enter Tryz.func7, Tryz.ntmps7
  go_wp2_with fail
  refine HO.out.mono ?_
  rintro e w1 ⟨u, S, rfl, hr, hS, hb⟩
  rw [List.nil_append] at hS ⊢
  have HR := Lib.hid hr
  have HB := Lib.hid hb
  clear hr hb HO
  rcases hS with ⟨herr, rfl⟩ | ⟨herr, rfl⟩
  · rw [herr]
    have hsl := slots_len2 (Pv.ord [] l)
    have HDD := Lib.hid (dd_slots (Pv.ord [] l) hnd Pv.zero true (.inl rfl))
    have HE0 := Lib.hid herr
    clear herr hnd
    obtain ⟨O, eO⟩ : ∃ O, O = Pv.ord [] l := ⟨_, rfl⟩
    rw [← eO] at hol hsl HDD HR
    try rw [← eO]
    have HOE := Lib.hid eO
    clear eO
    have HS0 := Lib.hid (show Pv.slots O = Pv.zero :: O.flatMap Pv.slot from rfl)
    generalize O.flatMap Pv.slot = T at *
    generalize Pv.slots O = S at *
    obtain ⟨A, c, rfl, hV, hA⟩ := HR.out.reads
    have HV := Lib.hid hV
    clear hV hA HR
    go_wp2_with fail
    go_loopw [6, 19] (fun u t wr => ∃ (i : Nat) (acc : List Pv), i ≤ S.length ∧ t = .int .i64 i ∧ VRow wr w1.heap.size u acc ∧ (i = 0 ∧ acc = [] ∨ ∃ p, 1 ≤ i ∧ S[i - 1]? = some p ∧ acc ++ Pv.dd p (decide (i = 1)) (S.drop i) = O) ∧ acc.length ≤ i ∧ Below w1.heap.size w1 wr) (fun _ t _ => S.length - (intOf t).toNat)
    case atStart => exact ⟨0, [], Nat.zero_le _, rfl, VRow.nil _ _, .inl ⟨rfl, rfl⟩, Nat.zero_le _, Below.refl _ _⟩
    case round =>
      obtain ⟨i, acc, hil, rfl, hr, hst, hal, hB⟩ := hrel
      have MR := Lib.hid hr
      have MB := Lib.hid hB
      have MS := Lib.hid hst
      clear hr hB hst
      by_cases hi : i < S.length
      · obtain ⟨g, o, v, eA, hg, hv, c0, c1, c2, c3, c4, c5⟩ := (HV.out.grow MB.out).at_ hi
        have p1 : decide ((i : Int) < (S.length : Int)) = true := decide_eq_true (by omega)
        have p2 : decide (i < S.length) = true := decide_eq_true hi
        have k1 := Lib.hid ((Below.refl wr.heap.size wr).alloc (Nat.le_refl _) (.cells #[.int .i64 v.tag, .string (bs v.text), .int .u64 v.bits, .string (bs v.cls), .string (bs v.name), .string (bs v.desc)] 36))
        have q1 := Lib.hid (vbox_new wr v)
        have NB := Lib.hid (MB.out.trans (k1.out.mono MB.out.size))
        have NR := Lib.hid (MR.out.grow k1.out)
        by_cases h0 : i = 0
        · subst h0
          subst eA
          simp only [Nat.zero_mul, Nat.add_zero] at c0 c1 c2 c3 c4 c5
          have hacc : acc = [] := by
            rcases MS.out with ⟨_, h⟩ | ⟨_, h, _⟩
            · exact h
            · exact absurd h (by omega)
          subst hacc
          have HN := Lib.hid (show ∃ p, 1 ≤ 0 + 1 ∧ S[0 + 1 - 1]? = some p ∧ [] ++ Pv.dd p (decide (0 + 1 = 1)) (S.drop (0 + 1)) = O from ⟨Pv.zero, by omega, by rw [HS0.out]; rfl, by rw [HS0.out]; exact HDD.out⟩)
          clear hv MS MR
          go_wp2_with fail
          go_quiet (fail)
          go_wp2_with fail
          go_roundw
          case rel => exact ⟨0 + 1, [], by omega, by go_num, NR.out, .inr HN.out, by simp, below_drewN NB.out _⟩
          case measure => simp [intOf]; omega
        · obtain ⟨p, _, hp, hst⟩ : ∃ p, 1 ≤ i ∧ S[i - 1]? = some p ∧ acc ++ Pv.dd p (decide (i = 1)) (S.drop i) = O := by
            rcases MS.out with ⟨h, _⟩ | h
            · exact absurd h h0
            · exact h
          have hnx := dd_step hv hst
          have p3 : decide ((0 : Int) < (i : Int)) = true := decide_eq_true (by omega)
          have HNX := Lib.hid hnx
          clear hst hnx MS
          have HV1 := Lib.hid hv
          clear hv
          by_cases h1 : i = 1
          · subst h1
            subst eA
            clear hp
            simp only [Nat.one_mul] at c0 c1 c2 c3 c4 c5
            have HN := Lib.hid (show (acc ++ [v]) ++ Pv.dd v (decide (1 + 1 = 1)) (S.drop (1 + 1)) = O from by
              have h := HNX.out
              rw [if_pos (.inl rfl)] at h
              exact h)
            go_wp2_with fail
            refine wp_region_grow (by kernel_rfl) (by kernel_rfl) ?_
            repeat (go_big_quiet_step (fail))
            refine wpQuiet_nil ?_
            intro g2
            obtain ⟨x2, hb2⟩ := g2
            have NB2 := Lib.hid (NB.out.trans (hb2.mono NB.out.size))
            have NR2 := Lib.hid (NR.out.grow hb2)
            have Q2 := Lib.hid (q1.out.keep hb2 q1.out.lt)
            dsimp only
            clear hb2 NB NR k1 q1 c0 c1 c2 c3 c4 c5
            obtain ⟨d0, d1, d2, d3, d4, d5⟩ := Q2.out.at_
            have hz := Q2.out.lt
            have kx := Lib.hid ((Below.refl x2.heap.size x2).alloc (Nat.le_refl _) (.cells #[.int .i64 v.tag, .string (bs v.text), .int .u64 v.bits, .string (bs v.cls), .string (bs v.name), .string (bs v.desc)] 36))
            go_wp2_with (at_builtin; refine wpList_appV rfl _ _ rfl w1.heap.size _ acc rfl (NR2.out.grow kx.out) _ [v] rfl (src_val (heap_alloc_new _ _) 1) (by simp; omega) (Nat.le_trans NB2.out.size kx.out.size) ?_; intro v5 x5 hr5 hp5)
            have R5 := Lib.hid hr5
            have B5 := Lib.hid ((NB2.out.trans (kx.out.mono NB2.out.size)).trans (hp5.below (Nat.le_trans NB2.out.size kx.out.size) (fun k hk => NR2.out.base_le hk)))
            clear hr5 hp5 d0 d1 d2 d3 d4 d5 hz NB2 NR2 Q2 kx
            go_wp2_with fail
            go_roundw
            case rel => exact ⟨1 + 1, acc ++ [v], by omega, by go_num, R5.out, .inr ⟨v, by omega, HV1.out, HN.out⟩, by simp; omega, B5.out⟩
            case measure => simp [intOf]; omega
          · have p4 : ((i : Int) == 1) = false := by rw [beq_eq_false_iff_ne]; omega
            have p4' : (i == 1) = false := by rw [beq_eq_false_iff_ne]; omega
            have p3' : decide (0 < i) = true := decide_eq_true (by omega)
            obtain ⟨g', o', p', eA', _, hp', b0, b1, b2, b3, b4, b5⟩ := (HV.out.grow MB.out).at_ (i := i - 1) (by omega)
            rw [hp] at hp'
            cases hp'
            subst eA
            cases eA'
            have hsub : (i : Int) - 1 = ((i - 1 : Nat) : Int) := by omega
            have p5 : decide (i - 1 < S.length) = true := decide_eq_true (by omega)
            have p6 : ((i - 1 : Nat) : Int) < (S.length : Int) := by omega
            have p7 : i - 1 < S.length := by omega
            have p8 : (i : Int) - 1 < (S.length : Int) := by omega
            have HE := Lib.hid (fun x => eq_val v p x)
            unfold vv at HE
            have HD1 := Lib.hid (show decide (i + 1 = 1) = false from decide_eq_false (by omega))
            clear hp
            by_cases e : v = p
            · have he := fun x => (HE.out x).trans (by rw [decide_eq_true e])
              have HN := Lib.hid (show acc ++ Pv.dd v (decide (i + 1 = 1)) (S.drop (i + 1)) = O from by
                have h := HNX.out
                rw [if_neg (by simp [e, h1]), List.append_nil] at h
                rw [HD1.out]
                exact h)
              clear e
              go_wp2_with fail
              refine wp_region_grow (by kernel_rfl) (by kernel_rfl) ?_
              repeat (go_big_quiet_step (fail))
              refine wpQuiet_nil ?_
              intro g2
              obtain ⟨x2, hb2⟩ := g2
              have NB2 := Lib.hid (NB.out.trans (hb2.mono NB.out.size))
              have NR2 := Lib.hid (NR.out.grow hb2)
              have Q2 := Lib.hid (q1.out.keep hb2 q1.out.lt)
              dsimp only
              clear hb2 NB NR k1 q1 c0 c1 c2 c3 c4 c5
              clear Q2 he b0 b1 b2 b3 b4 b5
              go_wp2_with fail
              go_roundw
              case rel => exact ⟨i + 1, acc, by omega, by go_num, NR2.out, .inr ⟨v, by omega, HV1.out, HN.out⟩, by omega, NB2.out⟩
              case measure => simp [intOf]; omega
            · have he := fun x => (HE.out x).trans (by rw [decide_eq_false e])
              have HN := Lib.hid (show (acc ++ [v]) ++ Pv.dd v (decide (i + 1 = 1)) (S.drop (i + 1)) = O from by
                have h := HNX.out
                rw [if_pos (.inr e)] at h
                rw [HD1.out]
                exact h)
              clear e
              go_wp2_with fail
              refine wp_region_grow (by kernel_rfl) (by kernel_rfl) ?_
              repeat (go_big_quiet_step (fail))
              refine wpQuiet_nil ?_
              intro g2
              obtain ⟨x2, hb2⟩ := g2
              have NB2 := Lib.hid (NB.out.trans (hb2.mono NB.out.size))
              have NR2 := Lib.hid (NR.out.grow hb2)
              have Q2 := Lib.hid (q1.out.keep hb2 q1.out.lt)
              dsimp only
              clear hb2 NB NR k1 q1 c0 c1 c2 c3 c4 c5
              clear he b0 b1 b2 b3 b4 b5
              obtain ⟨d0, d1, d2, d3, d4, d5⟩ := Q2.out.at_
              have hz := Q2.out.lt
              have kx := Lib.hid ((Below.refl x2.heap.size x2).alloc (Nat.le_refl _) (.cells #[.int .i64 v.tag, .string (bs v.text), .int .u64 v.bits, .string (bs v.cls), .string (bs v.name), .string (bs v.desc)] 36))
              go_wp2_with (at_builtin; refine wpList_appV rfl _ _ rfl w1.heap.size _ acc rfl (NR2.out.grow kx.out) _ [v] rfl (src_val (heap_alloc_new _ _) 1) (by simp; omega) (Nat.le_trans NB2.out.size kx.out.size) ?_; intro v5 x5 hr5 hp5)
              have R5 := Lib.hid hr5
              have B5 := Lib.hid ((NB2.out.trans (kx.out.mono NB2.out.size)).trans (hp5.below (Nat.le_trans NB2.out.size kx.out.size) (fun k hk => NR2.out.base_le hk)))
              clear hr5 hp5 d0 d1 d2 d3 d4 d5 hz NB2 NR2 Q2 kx
              go_wp2_with fail
              go_roundw
              case rel => exact ⟨i + 1, acc ++ [v], by omega, by go_num, R5.out, .inr ⟨v, by omega, HV1.out, HN.out⟩, by simp; omega, B5.out⟩
              case measure => simp [intOf]; omega
      · obtain rfl : i = S.length := by omega
        have p1 : decide ((S.length : Int) < (S.length : Int)) = false := decide_eq_false (by omega)
        have p2 : decide (S.length < S.length) = false := decide_eq_false (by omega)
        have hfin : acc = O := by
          rcases MS.out with ⟨h, _⟩ | ⟨p, _, _, h⟩
          · rw [HS0.out] at h; simp at h
          · rw [List.drop_length] at h
            simpa [Pv.dd] using h
        subst hfin
        clear MS
        go_wp2_with fail
        go_ret2
        exact ⟨.inr ⟨HE0.out, _, rfl, by rw [← HOE.out]; exact MR.out.lower HB.out.size⟩, HB.out.trans (MB.out.mono HB.out.size)⟩
  · have he : (Pv.errOf l != 0) = true := by simpa using herr
    have HE := Lib.hid herr
    clear herr
    go_wp2_with fail
    go_ret2
    exact ⟨.inl ⟨HE.out, rfl⟩, HB.out⟩
end Go.Proofs.YtkdamaomhppkgaaGreat

/- The walk of layer 28's second law: a table that is written is read. -/
namespace Go.Proofs.YtkdamaomhppkgaaGreat
open Go.RowKit Go.Maps Pp

theorem few_len3 {l : List Pv} (h : Pv.few l = true) : l.length ≤ 60 ∧ ∀ v ∈ l, v.text.length + v.cls.length + v.name.length + v.desc.length ≤ 300 := by
  unfold Pv.few at h
  simp only [Bool.and_eq_true, decide_eq_true_eq] at h
  refine ⟨h.2, fun v hv => ?_⟩
  have := List.all_eq_true.1 h.1 v hv
  unfold Pv.small at this
  simp at this
  omega
/-- A table told by other values of the same rows. -/
theorem TabOf.rows_eq {x : World} {base b m n : Nat} {us : Nat → Value} {T O : List Pv} (h : TabOf x base b m n us T) (hr : ∀ t, Pv.row T t = Pv.row O t) : TabOf x base b m n us O :=
  TabS.same h (fun t => hr t) (fun v => by rw [rows_nums hr]) (fun v => decide_eq_decide.2 (rows_mem hr v))
theorem texts_snoc {O : List Pv} {i : Nat} {v : Pv} (h : O[i]? = some v) : sumL (texts (O.take (i + 1))) = sumL (texts (O.take i)) + (if v.tag = 1 then v.text.length else 0) := by
  unfold texts
  rw [row_snoc h, List.map_append]
  have hs : ∀ a b : List (List UInt8), sumL (a ++ b) = sumL a + sumL b := fun a b => by
    unfold sumL
    rw [List.map_append, List.sum_append]
  rw [hs]
  split
  · simp [sumL]
  · simp [sumL]
theorem back_len {a b : List UInt8} {m : Nat} (h : (a ++ b).drop m = b) (_hm : m ≤ (a ++ b).length) : (a ++ b).length - m = b.length := by
  have := congrArg List.length h
  rw [List.length_drop] at this
  exact this
theorem okinj {T T' : List Pv} {r r' : List UInt8} (h : (Except.ok (T, r) : Except Int (List Pv × List UInt8)) = .ok (T', r')) : T = T' ∧ r = r' := by
  cases h
  exact ⟨rfl, rfl⟩
set_option maxRecDepth 100000 in
set_option maxHeartbeats 16000000 in
theorem back28_any (B : Option Addr) (d : Nat) (l : List Pv) (Bq : Option Addr) (dq : Nat) (q : List UInt8) (w : World) (hy : Vals w B d l) (hA : B = none → d = 0) (hm : l.length ≤ 140737488355328) (hf : ∀ v ∈ l, v.fits) (hq : BAt w Bq dq q) :
    Calls Tryz.prog 3 #[.slice B l.length d, .slice Bq q.length dq] w fun e w' => e = .returned (.bool true) ∧ Below w.heap.size w w' := by
  have HY := Lib.hid hy
  have HFT := Lib.hid hf
  have HAN := Lib.hid hA
  have HQ := Lib.hid hq
  have HFX := Lib.hid fixed_any
  have HF2 := Lib.hid (fun w h => few_any B d l w h hm hf)
  clear hy hf hA hq
  go_enter Tryz.func3, Tryz.ntmps3
  go_wp2_with fail
  refine (HFX.out w).mono ?_
  rintro e w1 ⟨rfl, hb1⟩
  have K1 := Lib.hid hb1
  clear hb1 HFX
  go_wp2_with fail
  refine (HF2.out w1 (HY.out.grow K1.out)).mono ?_
  rintro e w2 ⟨rfl, hb2⟩
  have K2 := Lib.hid (K1.out.trans (hb2.mono K1.out.size))
  clear hb2 K1 HF2
  cases f1 : Pv.few l with
  | false =>
    go_wp2_with fail
    go_ret
    exact ⟨rfl, K2.out⟩
  | true =>
    obtain ⟨L1, L2⟩ := few_len3 f1
    have HL2 := Lib.hid L2
    clear f1 L2
    by_cases h50 : 50 < q.length
    · have p1 : decide ((50 : Int) < (q.length : Int)) = true := decide_eq_true (by omega)
      have p2 : decide (50 < q.length) = true := decide_eq_true h50
      go_wp2_with fail
      go_ret
      exact ⟨rfl, K2.out⟩
    · have p1 : decide ((50 : Int) < (q.length : Int)) = false := decide_eq_false (by omega)
      have p2 : decide (50 < q.length) = false := decide_eq_false h50
      have HCL := Lib.hid (closed_any B d l w2 (HY.out.grow K2.out) (by omega) HFT.out)
      go_wp2_with fail
      refine HCL.out.mono ?_
      rintro e w3 ⟨hcl, hb3⟩
      have K3 := Lib.hid (K2.out.trans (hb3.mono K2.out.size))
      have HOF0 := Lib.hid (of_any B d l w3 (HY.out.grow K3.out) (by omega) HAN.out HFT.out)
      rcases hcl with ⟨herr, rfl⟩ | ⟨herr, u, rfl, hr⟩
      · have he : (Pv.errOf l != 0) = true := by simpa using herr
        clear hb3 K2 HCL HOF0
        generalize Pv.errOf l = er at *
        go_wp2_with fail
        go_ret
        exact ⟨rfl, K3.out⟩
      · have hord := ord_nil l
        have hchk := Pv.errOf_zero herr
        have HTB := Lib.hid (show Tbl (Pv.ord [] l) from by rw [hord]; exact tbl_closure hchk)
        have hbd := few_bounds HL2.out L1
        have hft := few_text HL2.out L1
        rw [← hord] at hbd hft
        have HOF := Lib.hid (show ∀ v ∈ Pv.ord [] l, v.fits from fun v hv => Pv.fits_cl HFT.out ((Pv.ord_mem [] l v).1 hv))
        have HND := Lib.hid (Pv.ord_nodup [] l)
        obtain ⟨xb, hxb, hxl⟩ := tblW_some (O := Pv.ord [] l) (by omega) (fun v hv => (HOF.out v hv).2.1) (by omega)
        have HXB := Lib.hid hxb
        have HTE := Lib.hid (texts_e HTB.out (by omega) (by omega))
        obtain ⟨A, c, rfl, hV, hAx⟩ := hr.reads
        have HV := Lib.hid hV
        have HE0 := Lib.hid herr
        have hbl := hbd.1
        clear hr hV hAx hb3 K2 HCL hord hchk hbd hxb herr
        unfold OfOk at HOF0
        generalize Pv.ord [] l = O at *
        go_wp2_with fail
        refine HOF0.out.mono ?_
        rintro e w4 ⟨⟨h, _⟩ | ⟨_, b, m, n, us, rfl, hT⟩, hb4⟩
        · exact absurd HE0.out h
        have K4 := Lib.hid (K3.out.trans (hb4.mono K3.out.size))
        have HV4 := Lib.hid (HV.out.grow hb4)
        have HBY := Lib.hid (tbytes_any w3.heap.size b m n us O w4 hT HTB.out HOF.out (by omega) (by omega) xb HXB.out HTE.out (by omega))
        clear hT hb4 K3 HV HOF0
        go_wp2_with fail
        refine HBY.out.mono ?_
        rintro e w5 ⟨u5, rfl, hr5, hb5⟩
        obtain ⟨A5, c5, rfl, hba5, hA5⟩ := brow_at2 hr5
        have K5 := Lib.hid (K4.out.trans (hb5.mono K4.out.size))
        have HV5 := Lib.hid (HV4.out.grow hb5)
        have HBA := Lib.hid hba5
        have HR5 := Lib.hid hr5
        clear hr5 hb5 hba5 hA5 K4 HV4 HBY
        go_wp2_with fail
        go_loopw [11, 47] (fun s t wr => ∃ i : Nat, i ≤ O.length ∧ t = .int .i64 i ∧ s = .int .i64 (sumL (texts (O.take i)) : Nat) ∧ Below w5.heap.size w5 wr) (fun _ t _ => O.length - (intOf t).toNat)
        case atStart => exact ⟨0, Nat.zero_le _, rfl, by simp [texts, Pv.row, sumL], Below.refl _ _⟩
        case round =>
          obtain ⟨i, hil, rfl, rfl, hB⟩ := hrel
          have MB := Lib.hid hB
          clear hB
          by_cases hi : i < O.length
          · obtain ⟨g, o, v, rfl, hg, hv, c0, c1, c2, c3, c4, c5⟩ := (HV5.out.grow MB.out).at_ hi
            have p3 : decide ((i : Int) < (O.length : Int)) = true := decide_eq_true (by omega)
            have p4 : decide (i < O.length) = true := decide_eq_true hi
            have hts := texts_snoc hv
            have hvl : v.text.length ≤ 140737488355328 := (HOF.out v (List.mem_of_getElem? hv)).2.2.1
            have z1 := bs_size v.text
            have hsm : sumL (texts (O.take i)) ≤ 126000000 := by
              have h1 : ∀ j, j ≤ O.length → sumL (texts (O.take j)) ≤ sumL (texts O) := fun j _ => by
                have : O = O.take j ++ O.drop j := (List.take_append_drop j O).symm
                conv => rhs; rw [this]
                unfold texts
                rw [row_app, List.map_append]
                unfold sumL
                rw [List.map_append, List.sum_append]
                exact Nat.le_add_right _ _
              have := h1 i hil
              omega
            have NB := Lib.hid (MB.out.trans (((Below.refl wr.heap.size wr).alloc (Nat.le_refl _) (.cells #[.int .i64 v.tag, .string (bs v.text), .int .u64 v.bits, .string (bs v.cls), .string (bs v.name), .string (bs v.desc)] 36)).mono MB.out.size))
            by_cases h1 : v.tag = 1
            · have q1 : (v.tag == 1) = true := by simpa using h1
              rw [if_pos h1] at hts
              have HTS := Lib.hid hts
              clear hts hv h1
              generalize sumL (texts (O.take i)) = sm at *
              go_wp2_with fail
              go_roundw
              case rel => exact ⟨i + 1, by omega, by go_num, by rw [HTS.out]; go_num, NB.out⟩
              case measure => simp [intOf]; omega
            · have q1 : (v.tag == 1) = false := by simpa using h1
              rw [if_neg h1] at hts
              have HTS := Lib.hid hts
              clear hts hv h1
              generalize sumL (texts (O.take i)) = sm at *
              go_wp2_with fail
              go_roundw
              case rel => exact ⟨i + 1, by omega, by go_num, by rw [HTS.out, Nat.add_zero], NB.out⟩
              case measure => simp [intOf]; omega
          · obtain rfl : i = O.length := by omega
            have p3 : decide ((O.length : Int) < (O.length : Int)) = false := decide_eq_false (by omega)
            have p4 : decide (O.length < O.length) = false := decide_eq_false (by omega)
            rw [List.take_length]
            obtain ⟨w6, rfl⟩ : ∃ w6, w6 = wr := ⟨_, rfl⟩
            have K6 := Lib.hid (K5.out.trans (MB.out.mono K5.out.size))
            have HBA6 := Lib.hid (HBA.out.grow MB.out)
            have HR6 := Lib.hid (HR5.out.grow MB.out)
            have HV6 := Lib.hid (HV5.out.grow MB.out)
            have hrd := Lib.hid (tbl_back HTB.out (fun v hv => (HOF.out v hv).2.1) (by omega) HXB.out HTE.out (most := (sumL (texts O) : Nat)) (Int.le_refl _) (by omega) q)
            clear MB K5 HBA HR5 HV5
            have hsm9 : sumL (texts O) ≤ 18000 := hft
            generalize hSm : sumL (texts O) = sm at *
            have k1 := Lib.hid ((Below.refl w6.heap.size w6).alloc (Nat.le_refl _) (.cells #[] 5))
            go_upto_region 17 with fail
            go_wp2_with (first | (at_builtin; refine wpList_appBy rfl _ _ _ rfl w6.heap.size _ [] xb rfl (freshB (heap_alloc_new _ _) (Nat.le_refl _)) _ rfl (HBA6.out.grow k1.out).src (by simp; omega) (by simp) ?_; intro v7 w7 hr7 hp7; have HR7 := Lib.hid hr7; have hb7 := (k1.out.trans (hp7.below (by simp) (fun k hk => by cases hk; simp))); have HK7 := Lib.hid hb7; clear hr7 hp7 hb7) | (at_builtin; refine wpList_appBy rfl _ _ _ rfl w6.heap.size _ ([] ++ xb) q rfl HR7.out _ rfl (HQ.out.grow (K6.out.trans (HK7.out.mono K6.out.size))).src (by simp; omega) HK7.out.size ?_; intro v8 w8 hr8 hp8; have HR8 := Lib.hid hr8; have HK8 := Lib.hid (HK7.out.trans (hop_base HR7.out hp8 (Nat.le_refl _) HK7.out.size)); clear hr8 hp8))
            have hr8 := HR8.out
            rw [List.nil_append] at hr8
            obtain ⟨A8, c8, rfl, hba8, hA8⟩ := brow_at2 hr8
            have hql8 : (xb ++ q).length ≤ 100000 := by simp; omega
            have HN := Lib.hid (cnew_any A8 c8 (xb ++ q) w8 hba8 (by omega) hA8)
            have K8 := Lib.hid (K6.out.trans (HK8.out.mono K6.out.size))
            have HR68 := Lib.hid (HR6.out.grow HK8.out)
            have HV68 := Lib.hid (HV6.out.grow HK8.out)
            clear hr8 hba8 hA8 HR8 HR7 HK7 HK8 k1 HR6 HV6 HBA6 K6
            refine HN.out.mono ?_
            rintro ex w9 ⟨b9, A9, c9, rfl, hc9, hbn9, hb9⟩
            have HRD := Lib.hid (tread_any b9 A9 c9 (xb ++ q) 0 (sm : Nat) w9 hc9 (by unfold I64; omega) hql8)
            have K9 := Lib.hid (K8.out.trans (hb9.mono K8.out.size))
            have HR9 := Lib.hid (HR68.out.grow hb9)
            have HV9 := Lib.hid (HV68.out.grow hb9)
            have HB9 := Lib.hid hb9
            have HBN := Lib.hid hbn9
            clear hc9 hb9 hbn9 HN HR9 HV9
            go_wp2_with fail
            refine HRD.out.mono ?_
            rintro ex w10 ⟨p10, e10, hc10, hg10, hres⟩
            rw [List.drop_zero, hrd.out] at hres
            rcases hres with ⟨_, _, h9⟩ | ⟨rfl, bx, mx, nx, ux, T, rfl, hok, hTx, hPT, hTf⟩
            · cases h9
            obtain ⟨hT9, hd9⟩ := okinj hok
            have hT10 : T = rowsOf O (1 :: tOrder) := hT9.symm
            have hd10 : (xb ++ q).drop p10 = q := hd9.symm
            clear hT9 hd9
            subst hT10
            have hml := back_len hd10 hc10.le
            have kk := HB9.out.grown hg10 HB9.out.size (fun k hk => by cases hk; exact HBN.out)
            have hTO := hTx.rows_eq (rows_read HTB.out)
            have K10 := Lib.hid (K8.out.trans (kk.mono K8.out.size))
            have HR10 := Lib.hid (HR68.out.grow kk)
            have HV10 := Lib.hid (HV68.out.grow kk)
            have HC10 := Lib.hid hc10
            have HT10 := Lib.hid hTO
            have HML := Lib.hid hml
            have HBY2 := Lib.hid (tbytes_any w9.heap.size bx mx nx ux O w10 hTO HTB.out HOF.out (by omega) (by omega) xb HXB.out HTE.out (by omega))
            clear hok hTx hPT hTf hd10 hml kk hTO hc10 hg10 HRD K8 K9 HR68 HV68 HB9 HBN hrd
            go_wp2_with fail
            refine HBY2.out.mono ?_
            rintro e w11 ⟨u11, rfl, hr11, hb11⟩
            obtain ⟨A11, c11, rfl, _, _⟩ := brow_at2 hr11
            have HX11 := Lib.hid hr11
            have K11 := Lib.hid (K10.out.trans (hb11.mono K10.out.size))
            have HR11 := Lib.hid (HR10.out.grow hb11)
            have HV11 := Lib.hid (HV10.out.grow hb11)
            have HC11 := Lib.hid (HC10.out.grow hb11)
            have HT11 := Lib.hid (HT10.out.grow hb11)
            have HER := Lib.hid (cerr_any HC11.out)
            have HLF := Lib.hid (cleft_any HC11.out)
            rw [HML.out] at HLF
            clear hr11 hb11 K10 HR10 HV10 HC10 HT10 HBY2
            go_wp2_with fail
            refine HER.out.mono ?_
            rintro ex z ⟨rfl, ez⟩
            have ez := ez.symm
            subst ez
            go_wp2_with fail
            refine HLF.out.mono ?_
            rintro ex w12 ⟨rfl, hb12⟩
            have HX12 := Lib.hid (HX11.out.grow hb12)
            have K12 := Lib.hid (K11.out.trans (hb12.mono K11.out.size))
            have HR12 := Lib.hid (HR11.out.grow hb12)
            have HTL := Lib.hid (tells_any w9.heap.size bx mx nx ux O A c w12 (HT11.out.grow hb12) (HV11.out.grow hb12) HTB.out.ok HOF.out HND.out (by omega))
            have hqq : ((q.length : Int) == (q.length : Int)) = true := by simp
            clear hb12 HER HLF K11 HX11 HR11 HV11 HC11 HT11
            go_wp2_with fail
            refine HTL.out.mono ?_
            rintro ex w13 ⟨rfl, hb13⟩
            have K13 := Lib.hid (K12.out.trans (hb13.mono K12.out.size))
            have hcv1 := BRow.string 23 9 5 Tryz.underlying23 Tryz.underlying5 Tryz.underlying9 (HX12.out.grow hb13)
            have hcv2 := BRow.string 23 9 5 Tryz.underlying23 Tryz.underlying5 Tryz.underlying9 (HR12.out.grow hb13)
            clear hb13 HTL K12 HX12 HR12
            go_wp2_with fail
            go_ret
            exact ⟨rfl, K13.out⟩
end Go.Proofs.YtkdamaomhppkgaaGreat

/- The walk of layer 28's third law: what is read of any bytes rises, and is written and read again. -/
namespace Go.Proofs.YtkdamaomhppkgaaGreat
open Go.RowKit Go.Maps Pp

theorem words_pos {most : Int} {r : List UInt8} {q : List (List UInt8) × List UInt8} (h : wordsR most r = .ok q) : 0 < r.length := by
  unfold wordsR at h
  split at h
  · cases h
  · cases g1 : bandR 1 r with
    | error e => rw [g1] at h; cases h
    | ok p1 =>
      obtain ⟨k, r0⟩ := p1
      have c1 := bandN_eat (n := 1) (show bandN 1 r = .ok (k, r0) from g1)
      have c2 := (bandR_facts g1).1
      dsimp only at c2
      omega
theorem tblR_pos {most : Int} {r : List UInt8} {q : List Pv × List UInt8} (h : tblR most r = .ok q) : 0 < r.length := by
  unfold tblR at h
  cases hw : wordsR most r with
  | error e => rw [hw] at h; cases h
  | ok q => exact words_pos hw
theorem errOf_all : ∀ {l : List Pv}, (∀ v ∈ l, v.chk 0 9 5 = 0) → Pv.errOf l = 0
  | [], _ => rfl
  | v :: l, h => by
    have h1 := h v (List.mem_cons_self ..)
    have h2 := errOf_all (fun u hu => h u (List.mem_cons_of_mem _ hu))
    unfold Pv.errOf
    rw [if_pos h1]
    exact h2
/-- Row after row. -/
theorem rowsOf_take (T : List Pv) {k : Nat} (hk : k < 13) : rowsOf T (tags13.take (k + 1)) = rowsOf T (tags13.take k) ++ Pv.row T (k : Int) := by
  have h : tags13[k]? = some (k : Int) := by
    unfold tags13
    rw [List.getElem?_map, List.getElem?_range hk]
    rfl
  unfold rowsOf
  exact flat_take _ h
theorem last_app {α : Type} {a b : List α} {n i : Nat} {p : α} (hn : a.length + i = n) (hi : 0 < i) (hb : b[i - 1]? = some p) (_hl : i ≤ b.length) : (a ++ b.take i)[n - 1]? = some p := by
  rw [List.getElem?_append_right (by omega), List.getElem?_take, if_pos (by omega), show n - 1 - a.length = i - 1 by omega]
  exact hb
theorem brow_blk {w : World} {base g o n c : Nat} {l : List UInt8} (h : BRow w base 5 (.slice (some ⟨g, o, none⟩) n c) l) : o = 0 ∧ base ≤ g ∧ ∃ cur, w.heap[g]? = some (.cells cur 5 (0, 0)) := by
  rcases h.2 with ⟨h, _⟩ | ⟨g', cap, cur, h, h1, hg', _⟩
  · cases h
  · cases h
    exact ⟨rfl, h1, cur, hg'⟩
theorem xor_u8 (a b : Int) : ∃ u : UInt8, bits .xor .u8 a b = (u.toNat : Int) := by
  have h : ∃ n : Int, bits .xor .u8 a b = IntKind.u8.wrap n := ⟨_, rfl⟩
  obtain ⟨n, hn⟩ := h
  rw [IntKind.wrap_u8] at hn
  refine ⟨UInt8.ofNat (n % 256).toNat, ?_⟩
  rw [hn, UInt8.toNat_ofNat']
  omega
/-- One byte turns. -/
theorem bat_set {w : World} {g c i : Nat} {cur : Array Value} {l : List UInt8} (hb : w.heap[g]? = some (.cells cur 5 (0, 0))) (h : BAt w (some ⟨g, 0, none⟩) c l) (u : UInt8) (hi : i < l.length) : BAt (w.setCell ⟨g, i, none⟩ (.int .u8 (u.toNat : Int))) (some ⟨g, 0, none⟩) c (l.set i u) := by
  have hs := setCell_arr hb (k := i) (.int .u8 (u.toNat : Int)) _ rfl
  refine ⟨by rw [List.length_set]; exact h.1, fun hp => ⟨g, 0, rfl, (Array.getElem?_eq_some_iff.1 hs).1, fun j v hv => ?_⟩⟩
  obtain ⟨g', o', e, _, hc⟩ := h.2 (by omega)
  cases e
  rw [Nat.zero_add, (blk_facts hs).1 j]
  by_cases e : j = i
  · subst e
    rw [List.getElem?_set_self hi] at hv
    cases hv
    obtain ⟨v0, hv0⟩ : ∃ v0, l[j]? = some v0 := ⟨_, List.getElem?_eq_getElem hi⟩
    have h0 := hc j v0 hv0
    rw [Nat.zero_add, (blk_facts hb).1 j] at h0
    have hj := (Array.getElem?_eq_some_iff.1 h0).1
    rw [Array.getElem?_setIfInBounds, if_pos rfl, if_pos hj]
  · rw [List.getElem?_set_ne (fun h => e h.symm)] at hv
    have h0 := hc j v hv
    rw [Nat.zero_add, (blk_facts hb).1 j] at h0
    rw [Array.getElem?_setIfInBounds, if_neg (fun h => e h.symm)]
    exact h0
set_option maxRecDepth 100000 in
set_option maxHeartbeats 16000000 in
theorem tell28_any (B : Option Addr) (d : Nat) (l : List Pv) (a y : Nat) (w : World) (hy : Vals w B d l) (hA : B = none → d = 0) (hm : l.length ≤ 140737488355328) (hf : ∀ v ∈ l, v.fits) (ha : a < 65536) (_hyy : y < 256) :
    Calls Tryz.prog 4 #[.slice B l.length d, .int .u16 a, .int .u8 y] w fun e w' => e = .returned (.bool true) ∧ Below w.heap.size w w' := by
  have HY := Lib.hid hy
  have HFT := Lib.hid hf
  have HAN := Lib.hid hA
  have HFX := Lib.hid fixed_any
  have HF2 := Lib.hid (fun w h => few_any B d l w h hm hf)
  clear hy hf hA
  go_enter Tryz.func4, Tryz.ntmps4
  go_wp2_with fail
  refine (HFX.out w).mono ?_
  rintro e w1 ⟨rfl, hb1⟩
  have K1 := Lib.hid hb1
  clear hb1 HFX
  go_wp2_with fail
  refine (HF2.out w1 (HY.out.grow K1.out)).mono ?_
  rintro e w2 ⟨rfl, hb2⟩
  have K2 := Lib.hid (K1.out.trans (hb2.mono K1.out.size))
  clear hb2 K1 HF2
  cases f1 : Pv.few l with
  | false =>
    go_wp2_with fail
    go_ret
    exact ⟨rfl, K2.out⟩
  | true =>
    obtain ⟨L1, L2⟩ := few_len3 f1
    have HL2 := Lib.hid L2
    clear f1 L2
    have HOF0 := Lib.hid (of_any B d l w2 (HY.out.grow K2.out) (by omega) HAN.out HFT.out)
    unfold OfOk at HOF0
    go_wp2_with fail
    refine HOF0.out.mono ?_
    rintro e w4 ⟨⟨herr, rfl⟩ | ⟨herr, b, m, n, us, rfl, hT⟩, hb4⟩
    · have he : (Pv.errOf l != 0) = true := by simpa using herr
      have K4 := Lib.hid (K2.out.trans (hb4.mono K2.out.size))
      clear hb4 K2 HOF0
      generalize Pv.errOf l = er at *
      go_wp2_with fail
      go_ret
      exact ⟨rfl, K4.out⟩
    · have hord := ord_nil l
      have hchk := Pv.errOf_zero herr
      have HTB := Lib.hid (show Tbl (Pv.ord [] l) from by rw [hord]; exact tbl_closure hchk)
      have hbd := few_bounds HL2.out L1
      have hft := few_text HL2.out L1
      rw [← hord] at hbd hft
      have HOF := Lib.hid (show ∀ v ∈ Pv.ord [] l, v.fits from fun v hv => Pv.fits_cl HFT.out ((Pv.ord_mem [] l v).1 hv))
      obtain ⟨xb, hxb, hxl⟩ := tblW_some (O := Pv.ord [] l) (by omega) (fun v hv => (HOF.out v hv).2.1) (by omega)
      have HTE := texts_e HTB.out (by omega) (by omega)
      have hpos : 0 < xb.length := by
        have := tblR_pos (tbl_back HTB.out (fun v hv => (HOF.out v hv).2.1) (by omega) hxb HTE (most := (sumL (texts (Pv.ord [] l)) : Nat)) (Int.le_refl _) (by omega) [])
        rw [List.append_nil] at this
        exact this
      have HBY := Lib.hid (tbytes_any w2.heap.size b m n us (Pv.ord [] l) w4 hT HTB.out HOF.out (by omega) (by omega) xb hxb HTE (by omega))
      have hbl := hbd.1
      have hxl2 : xb.length ≤ 70000 := by omega
      have K4 := Lib.hid (K2.out.trans (hb4.mono K2.out.size))
      clear hord hchk hbd hxb herr hT hb4 HTE HOF0 K2 HTB HOF hft hxl hbl
      go_wp2_with fail
      refine HBY.out.mono ?_
      rintro e w5 ⟨u5, rfl, hr5, hb5⟩
      obtain ⟨A5, c5, rfl, hba5, hA5⟩ := brow_at2 hr5
      have K5 := Lib.hid (K4.out.trans (hb5.mono K4.out.size))
      obtain ⟨g5, o5, rfl, hg5, hc5⟩ := hba5.2 hpos
      obtain ⟨rfl, hgl5, cur5, hbk5⟩ := brow_blk hr5
      obtain ⟨i5, hi5⟩ : ∃ i5, a % xb.length = i5 := ⟨_, rfl⟩
      have hil5 : i5 < xb.length := by rw [← hi5]; exact Nat.mod_lt _ hpos
      obtain ⟨u8, hu8⟩ : ∃ u8, xb[i5]? = some u8 := ⟨_, List.getElem?_eq_getElem hil5⟩
      have hcell := hc5 i5 u8 hu8
      rw [Nat.zero_add] at hcell
      have hfz := (blk_facts hbk5).2 i5
      have p0 : ((xb.length : Int) == 0) = false := by rw [beq_eq_false_iff_ne]; omega
      obtain ⟨ux, hux⟩ := xor_u8 (u8.toNat : Int) (y : Int)
      have hba6 := bat_set hbk5 hba5 ux hil5
      have hx6 : (xb.set i5 ux).length = xb.length := List.length_set ..
      have HN := Lib.hid (cnew_any (some ⟨g5, 0, none⟩) c5 (xb.set i5 ux) _ hba6 (by omega) (fun h => by cases h))
      rw [hx6] at HN
      have hww : w.heap.size ≤ g5 := Nat.le_trans K4.out.size hgl5
      have K6 := Lib.hid (K5.out.setCell (p := ⟨g5, i5, none⟩) hww (.int .u8 (ux.toNat : Int)))
      have HX6 := Lib.hid hx6
      clear hba5 hr5 hb5 hA5 hc5 hu8 hbk5 hba6 hx6 K4 K5 HBY
      go_upto_region 12 with fail
      clear hux
      generalize w5.setCell ⟨g5, i5, none⟩ (.int .u8 (ux.toNat : Int)) = w6 at *
      generalize xb.set i5 ux = xq at *
      go_wp2_with fail
      refine HN.out.mono ?_
      rintro ex w9 ⟨b9, A9, c9, rfl, hc9, hbn9, hb9⟩
      have hxql : xq.length ≤ 100000 := by rw [HX6.out]; omega
      have HRD := Lib.hid (tread_any b9 A9 c9 xq 0 5000 w9 hc9 (by unfold I64; omega) hxql)
      have K9 := Lib.hid (K6.out.trans (hb9.mono K6.out.size))
      have HBN := Lib.hid (Nat.le_trans K6.out.size hbn9)
      clear hc9 hb9 hbn9 HN K6
      go_wp2_with fail
      refine HRD.out.mono ?_
      rintro ex w10 ⟨p10, e10, hc10, hg10, hres⟩
      have K10 := Lib.hid (K9.out.grown hg10 K9.out.size (fun k hk => by cases hk; exact HBN.out))
      have HER := Lib.hid (cerr_any hc10)
      clear hc10 hg10 HRD K9
      rcases hres with ⟨he, rfl, _⟩ | ⟨rfl, bx, mx, nx, ux', T, rfl, hok, hTx, hPT, hTf⟩
      · have qe : (e10 != 0) = true := by simpa using he
        clear he
        go_wp2_with fail
        refine HER.out.mono ?_
        rintro ex z ⟨rfl, ez⟩
        have ez := ez.symm
        subst ez
        go_wp2_with fail
        go_ret
        exact ⟨rfl, K10.out⟩
      · have hTl := tblR_eat hok
        rw [List.drop_zero] at hTl
        have hTl2 : T.length ≤ 100000 := by omega
        have HT10 := Lib.hid hTx
        have HP := Lib.hid hPT
        have HTF := Lib.hid hTf
        clear hok hTx hPT hTf hTl
        go_wp2_with fail
        refine HER.out.mono ?_
        rintro ex z ⟨rfl, ez⟩
        have ez := ez.symm
        subst ez
        go_wp2_with fail
        clear p0 hcell hfz
        go_loopw [13, 60] (fun uA u wr => ∃ k : Nat, k ≤ 13 ∧ u = .int .i64 k ∧ VRow wr w10.heap.size uA (rowsOf T (tags13.take k)) ∧ Below w10.heap.size w10 wr) (fun _ u _ => 13 - (intOf u).toNat)
        case atStart => exact ⟨0, Nat.zero_le _, rfl, VRow.nil _ _, Below.refl _ _⟩
        case round =>
          obtain ⟨uA, rfl⟩ : ∃ uA, uA = u13 := ⟨_, rfl⟩
          obtain ⟨k, hk13, rfl, hrow, hB⟩ := hrel
          have RA := Lib.hid hrow
          have MB := Lib.hid hB
          clear hrow hB
          by_cases hk : k < 13
          · have p1 : decide ((k : Int) < 13) = true := decide_eq_true (by omega)
            have p2 : decide (k < 13) = true := decide_eq_true hk
            have HLN := Lib.hid (len_any w9.heap.size bx mx nx ux' T (k : Int) wr (HT10.out.grow MB.out) HP.out.ok)
            have HRT := Lib.hid (rowsOf_take T hk)
            have HTR := Lib.hid (fun (v : Pv) (hv : v ∈ Pv.row T (k : Int)) => HTF.out v (mem_row.1 hv).1)
            have HRI := Lib.hid (HP.out.rise (k : Int))
            have hrl := row_len T (k : Int)
            have HAT := Lib.hid (fun (i : Nat) (v : Pv) (hv : (Pv.row T (k : Int))[i]? = some v) (z : World) (hz : Below w10.heap.size w10 z) => at_in w9.heap.size bx mx nx ux' T (k : Int) i v z (HT10.out.grow hz) HP.out.ok hv)
            have hpl : (rowsOf T (tags13.take k)).length ≤ 1300000 := by
              have h9 : ∀ us : List Int, (rowsOf T us).length ≤ us.length * 100000 := by
                intro us
                induction us with
                | nil => simp [rowsOf]
                | cons u us ih =>
                  unfold rowsOf at ih ⊢
                  rw [List.flatMap_cons, List.length_append, List.length_cons]
                  have := row_len T u
                  omega
              have := h9 (tags13.take k)
              rw [List.length_take] at this
              omega
            generalize Pv.row T (k : Int) = L at *
            generalize rowsOf T (tags13.take k) = PRE at *
            go_wp2_with fail
            refine HLN.out.mono ?_
            rintro ex z ⟨rfl, ez⟩
            have ez := ez.symm
            subst ez
            obtain ⟨wr0, rfl⟩ : ∃ wr0, wr0 = wr := ⟨_, rfl⟩
            go_wp2_with fail
            go_loopw [13, 66] (fun uA u wr => ∃ i : Nat, i ≤ L.length ∧ u = .int .i64 i ∧ VRow wr w10.heap.size uA (PRE ++ L.take i) ∧ Below w10.heap.size w10 wr) (fun _ u _ => L.length - (intOf u).toNat)
            case atStart => exact ⟨0, Nat.zero_le _, rfl, by rw [List.take_zero, List.append_nil]; exact RA.out, MB.out⟩
            case round =>
              obtain ⟨uB, rfl⟩ : ∃ uB, uB = u13 := ⟨_, rfl⟩
              obtain ⟨i, hil, rfl, hrow, hB⟩ := hrel
              have RA2 := Lib.hid hrow
              have MB2 := Lib.hid hB
              clear hrow hB
              by_cases hi : i < L.length
              · obtain ⟨v, hv⟩ : ∃ v, L[i]? = some v := ⟨_, List.getElem?_eq_getElem hi⟩
                have p3 : decide ((i : Int) < (L.length : Int)) = true := decide_eq_true (by omega)
                have p4 : decide (i < L.length) = true := decide_eq_true hi
                have HA := Lib.hid (HAT.out i v hv wr MB2.out)
                unfold vv at HA
                have HVV := Lib.hid hv
                clear hv
                go_wp2_with fail
                refine HA.out.mono ?_
                rintro e w12 ⟨rfl, hb12⟩
                have k1 := (Below.refl w12.heap.size w12).alloc (Nat.le_refl _) (.cells #[.int .i64 v.tag, .string (bs v.text), .int .u64 v.bits, .string (bs v.cls), .string (bs v.name), .string (bs v.desc)] 36)
                have kk := hb12.trans (k1.mono hb12.size)
                have RX := Lib.hid (vbox_new w12 v)
                have NR := Lib.hid (RA2.out.grow kk)
                have NB := Lib.hid (MB2.out.trans (kk.mono MB2.out.size))
                clear hb12 k1 kk HA RA2 MB2
                go_upto_region 24 with fail
                generalize w12.alloc (.cells #[.int .i64 v.tag, .string (bs v.text), .int .u64 v.bits, .string (bs v.cls), .string (bs v.name), .string (bs v.desc)] 36) = W at *
                generalize w12.heap.size = b12 at *
                obtain ⟨Ax, cx, ex, hVx, hAx9⟩ := NR.out.reads
                have HVX := Lib.hid hVx
                have hnl : (PRE ++ L.take i).length = PRE.length + i := by rw [List.length_append, List.length_take]; omega
                rw [hnl] at ex
                subst ex
                obtain ⟨c0, c1, c2, c3, c4, c5⟩ := RX.out.at_
                have hzx := RX.out.lt
                have HSN := Lib.hid (show PRE ++ L.take (i + 1) = (PRE ++ L.take i) ++ [v] from by
                  obtain ⟨h1, h2⟩ := List.getElem?_eq_some_iff.1 HVV.out
                  rw [List.take_succ_eq_append_getElem h1, h2, List.append_assoc])
                have hq : (decide ((0 : Int) < (i : Int)) = false ∧ decide (0 < i) = false) ∨ (decide ((0 : Int) < (i : Int)) = true ∧ decide (0 < i) = true ∧ ∃ p9 j, PRE.length + i = j + 1 ∧ Pv.lt p9 v ∧ (PRE ++ L.take i)[j]? = some p9) := by
                  by_cases a1 : 0 < i
                  · obtain ⟨p9, hp9⟩ : ∃ p9, L[i - 1]? = some p9 := ⟨_, List.getElem?_eq_getElem (by omega)⟩
                    have hlt : Pv.lt p9 v := by
                      obtain ⟨h1, h2⟩ := List.getElem?_eq_some_iff.1 hp9
                      obtain ⟨h3, h4⟩ := List.getElem?_eq_some_iff.1 HVV.out
                      have := List.pairwise_iff_getElem.1 HRI.out (i - 1) i h1 h3 (by omega)
                      rw [h2, h4] at this
                      exact this
                    exact .inr ⟨decide_eq_true (by omega), decide_eq_true a1, p9, PRE.length + i - 1, by omega, hlt, last_app (n := PRE.length + i) rfl a1 hp9 (by omega)⟩
                  · exact .inl ⟨decide_eq_false (by omega), decide_eq_false a1⟩
                have HNL := Lib.hid hnl
                clear hVx hAx9 hnl HVV
                generalize hPP : PRE ++ L.take i = PP at *
                clear hPP
                rcases hq with ⟨q1, q2⟩ | ⟨q1, q2, p9, j, hj, hlt, hpj⟩
                rotate_left
                obtain ⟨gr, orr, v9, rfl, hgr, hv9, e0, e1, e2, e3, e4, e5⟩ := HVX.out.at_ (i := j) (by rw [HNL.out]; omega)
                rw [hpj] at hv9
                cases hv9
                have HLS := Lib.hid (fun g : Gr W => Gr.call (g := g) (less_any p9 v g.1))
                rw [decide_eq_true hlt] at HLS
                unfold vv at HLS
                have ej : ((PRE.length : Int) + (i : Int)) - 1 = (j : Int) := by omega
                have hji : j < PRE.length + i := by omega
                have hji2 : decide (j < PRE.length + i) = true := decide_eq_true hji
                have hji3 : (j : Int) < (PRE.length : Int) + (i : Int) := by omega
                clear hj hpj hlt
                rotate_right
                all_goals
                  refine wp_region_grow (by kernel_rfl) (by kernel_rfl) ?_
                  repeat (go_big_quiet_step ((go_at_call 17; with_reducible exact HLS.out _)))
                  refine wpQuiet_nil ?_
                  intro g1
                  obtain ⟨w1, hb1⟩ := g1
                  dsimp only
                  have NR2 := Lib.hid (NR.out.grow hb1)
                  have NB2 := Lib.hid (NB.out.trans (hb1.mono NB.out.size))
                  have RX2 := Lib.hid (RX.out.keep hb1 RX.out.lt)
                  try clear e0 e1 e2 e3 e4 e5 hgr
                  clear hb1 c0 c1 c2 c3 c4 c5 hzx NR NB RX HVX
                  obtain ⟨d0, d1, d2, d3, d4, d5⟩ := RX2.out.at_
                  have hzz := RX2.out.lt
                  have kx := Lib.hid ((Below.refl w1.heap.size w1).alloc (Nat.le_refl _) (.cells #[.int .i64 v.tag, .string (bs v.text), .int .u64 v.bits, .string (bs v.cls), .string (bs v.name), .string (bs v.desc)] 36))
                  have hppl : PP.length + [v].length ≤ 1000000000000 := by rw [HNL.out]; simp; omega
                  go_upto_region 27 with (at_builtin; refine wpList_appV rfl _ _ rfl w10.heap.size _ PP rfl (NR2.out.grow kx.out) _ [v] rfl (src_val (heap_alloc_new _ _) 1) hppl (Nat.le_trans NB2.out.size kx.out.size) ?_; intro v5 x5 hr5 hp5; have HR5 := Lib.hid hr5; have HP5 := Lib.hid hp5; clear hr5 hp5)
                  have NB5 := Lib.hid ((NB2.out.trans (kx.out.mono NB2.out.size)).trans (HP5.out.below (Nat.le_trans NB2.out.size kx.out.size) (fun k hk => NR2.out.base_le hk)))
                  clear d0 d1 d2 d3 d4 d5 hzz kx NR2 NB2 RX2
                  go_wp2_with fail
                  go_roundw
                  case rel => exact ⟨i + 1, by omega, by go_num, by rw [HSN.out]; exact HR5.out, NB5.out⟩
                  case measure => simp [intOf]; omega
              · obtain rfl : i = L.length := by omega
                have p3 : decide ((L.length : Int) < (L.length : Int)) = false := decide_eq_false (by omega)
                have p4 : decide (L.length < L.length) = false := decide_eq_false (by omega)
                have hr := RA2.out
                rw [List.take_length, ← HRT.out] at hr
                have HR := Lib.hid hr
                clear hr
                go_wp2_with fail
                go_roundw
                case rel => exact ⟨k + 1, by omega, by go_num, HR.out, MB2.out⟩
                case measure => simp [intOf]; omega
          · obtain rfl : k = 13 := by omega
            have p1 : decide ((13 : Int) < 13) = false := by decide
            have hr := RA.out
            rw [show rowsOf T (tags13.take 13) = allOf T from rfl] at hr
            obtain ⟨Al, cl, rfl, hVl, hAl⟩ := hr.reads
            have hno : Al = none → cl = 0 := fun e => by
              rcases hr.2 with ⟨h, _⟩ | ⟨g', cap, cur, h, _⟩
              · injection h with _ _ q3
              · injection h with q1 _ _
                rw [e] at q1
                cases q1
            have hT9 := Lib.hid (allOf_tbl HP.out)
            have hff := Lib.hid (show ∀ v ∈ allOf T, v.fits from fun v hv => HTF.out v ((mem_allOf HP.out).1 hv))
            have hln : (allOf T).length ≤ 100000 := by
              have h1 := (allOf_tbl HP.out)
              have h2 : (allOf T).length = T.length := by
                have hn1 := rises_nodup Pv.lin h1.rises
                have hn2 := rows_nodup HP.out.rise
                exact (List.perm_ext_iff_of_nodup hn1 hn2).2 (fun v => mem_allOf HP.out) |>.length_eq
              omega
            have HOFF := Lib.hid (of_any Al cl (allOf T) wr hVl hln hno hff.out)
            have HVL := Lib.hid hVl
            have herr0 := errOf_all hT9.out.ok
            have hord := ord_nil (allOf T)
            rw [part_again HP.out] at hord
            have HTX := Lib.hid (TabOf.rows_eq (HT10.out.grow MB.out) (fun t => (rows_all HP.out t).symm))
            have HND := Lib.hid (rises_nodup Pv.lin hT9.out.rises)
            have KR := Lib.hid (K10.out.trans (MB.out.mono K10.out.size))
            unfold OfOk at HOFF
            rw [hord] at HOFF
            clear hr hVl hAl hno hord RA MB HT10 K10
            generalize allOf T = Q at *
            go_wp2_with fail
            refine HOFF.out.mono ?_
            rintro e w20 ⟨⟨h, _⟩ | ⟨_, b20, m20, n20, us20, rfl, hT20⟩, hb20⟩
            · exact absurd herr0 h
            have KR20 := Lib.hid (KR.out.trans (hb20.mono KR.out.size))
            have HT21 := Lib.hid (tells_any wr.heap.size b20 m20 n20 us20 Q Al cl w20 hT20 (HVL.out.grow hb20) hT9.out.ok hff.out HND.out hln)
            have HT22 := Lib.hid (fun (z : World) (hz : Below w20.heap.size w20 z) => tells_any w9.heap.size bx mx nx ux' Q Al cl z ((HTX.out.grow hb20).grow hz) ((HVL.out.grow hb20).grow hz) hT9.out.ok hff.out HND.out hln)
            clear hT20 hb20 HOFF KR HTX HVL herr0
            go_wp2_with fail
            refine HT21.out.mono ?_
            rintro ex w21 ⟨rfl, hb21⟩
            have HT23 := Lib.hid (HT22.out w21 hb21)
            have KR21 := Lib.hid (KR20.out.trans (hb21.mono KR20.out.size))
            clear HT21 HT22 KR20 hb21
            go_wp2_with fail
            refine HT23.out.mono ?_
            rintro ex w22 ⟨rfl, hb22⟩
            have KR22 := Lib.hid (KR21.out.trans (hb22.mono KR21.out.size))
            clear HT23 KR21 hb22
            go_wp2_with fail
            go_ret
            exact ⟨rfl, KR22.out⟩
end Go.Proofs.YtkdamaomhppkgaaGreat

/- What came in: a row of ints, a row of bytes. -/
namespace Go.Proofs.YtkdamaomhppkgaaGreat
open Go.ChangeShapes Go.WideShapes Go.ChangeAt Go.RowKit

theorem cellsInt : Tryz.prog.cellsOf 3 = 1 := by kernel_rfl
theorem laidOutP : laidOutB Tryz.prog = true := by kernel_rfl
set_option maxRecDepth 100000 in
theorem view {H : Type} {enc : TypeId × Value → H} {W : World} {base : Nat} {v : Value} {d : DataW H} {p : List MemPlace} (hv : Value.okWide Tryz.prog W .any base 72 v) (h : DataW.Trod enc Tryz.prog W 0 (fun _ => true) true 72 v d p) :
    ∃ A c Z, v = .slice A (List.length Z) c ∧ Ints W A c Z ∧ ∀ x ∈ Z, I64 x := by
  obtain ⟨a0, len, cap, rfl⟩ := okWide_slice Tryz.underlying72 hv
  obtain ⟨fuel, hf⟩ := h
  rcases open_ints Tryz.underlying72 Tryz.underlying3 cellsInt hf with ⟨hcs, hx⟩ | ⟨a, len', cap', zs, hcs, _, hl, hm, hz, hx, hcell, hwz⟩
  · simp [Value.cells] at hcs
    obtain ⟨rfl, rfl, rfl⟩ := hcs
    exact ⟨none, 0, [], rfl, Ints.nil _ _ _, fun x hx => by simp at hx⟩
  · simp [Value.cells] at hcs
    obtain ⟨rfl, rfl, rfl⟩ := hcs
    simp only [if_true] at hz
    have hlen : (zs.take len).length = len := by rw [List.length_take]; omega
    refine ⟨some a, cap, zs.take len, by rw [hlen], ⟨by rw [hlen]; exact hl, fun hp => ?_⟩, fun x hx => bounds_i64 (hwz x (List.mem_of_mem_take hx))⟩
    rw [hlen] at hp
    obtain ⟨g, o, s⟩ := a
    have h0 := hcell 0 (by omega)
    have hs : s = none := by simpa [Addr.add] using World.cell?_spot h0
    subst hs
    refine ⟨g, o, rfl, by simpa [Addr.add] using World.block_lt_of_cell? W _ h0, fun j x hx => ?_⟩
    obtain ⟨h1, h2⟩ := List.getElem?_eq_some_iff.1 hx
    have hj : j < zs.length := by rw [hlen] at h1; omega
    have h3 := hcell j hj
    have e : Addr.add ⟨g, o, none⟩ j = ⟨g, o + j, none⟩ := by unfold Addr.add; split <;> simp_all
    rw [e] at h3
    rw [h3]
    have e2 : zs.getD j 0 = x := by rw [← h2]; simp [List.getD, hj]
    rw [e2]
theorem cellsByte : Tryz.prog.cellsOf 5 = 1 := by kernel_rfl
set_option maxRecDepth 100000 in
theorem viewB {H : Type} {enc : TypeId × Value → H} {W : World} {base : Nat} {v : Value} {d : DataW H} {p : List MemPlace} (hv : Value.okWide Tryz.prog W .any base 23 v) (h : DataW.Trod enc Tryz.prog W 0 (fun _ => true) true 23 v d p) :
    ∃ A c l, v = .slice A (List.length l) c ∧ BAt W A c l ∧ (A = none → c = 0) := by
  obtain ⟨a0, len, cap, rfl⟩ := okWide_slice Tryz.underlying23 hv
  obtain ⟨fuel, hf⟩ := h
  rcases open_ints Tryz.underlying23 Tryz.underlying5 cellsByte hf with ⟨hcs, hx⟩ | ⟨a, len', cap', zs, hcs, _, hl, hm, hz, hx, hcell, hwz⟩
  · simp [Value.cells] at hcs
    obtain ⟨rfl, rfl, rfl⟩ := hcs
    exact ⟨none, 0, [], rfl, ⟨Nat.le_refl _, fun h => by simp at h⟩, fun _ => rfl⟩
  · simp [Value.cells] at hcs
    obtain ⟨rfl, rfl, rfl⟩ := hcs
    simp only [if_true] at hz
    have hlen : ((zs.take len).map fun n => UInt8.ofNat n.toNat).length = len := by simp; omega
    refine ⟨some a, cap, (zs.take len).map fun n => UInt8.ofNat n.toNat, by rw [hlen], ⟨by rw [hlen]; exact hl, fun hp => ?_⟩, fun e => by cases e⟩
    rw [hlen] at hp
    obtain ⟨g, o, s⟩ := a
    have h0 := hcell 0 (by omega)
    have hs : s = none := by simpa [Addr.add] using World.cell?_spot h0
    subst hs
    refine ⟨g, o, rfl, by simpa [Addr.add] using World.block_lt_of_cell? W _ h0, fun j x hx => ?_⟩
    obtain ⟨h1, h2⟩ := List.getElem?_eq_some_iff.1 hx
    have hj : j < zs.length := by rw [hlen] at h1; omega
    have h3 := hcell j hj
    rw [Addr.add_lit] at h3
    rw [h3]
    have hb := range_u8 hwz j
    simp only [List.getElem_map, List.getElem_take] at h2
    have e : zs.getD j 0 = zs[j]'hj := by simp [List.getD, List.getElem?_eq_getElem hj]
    have e' : zs[j]?.getD 0 = zs[j]'hj := by simp [List.getElem?_eq_getElem hj]
    rw [e'] at hb
    rw [e]
    rw [← h2]
    congr 2
    simp only [UInt8.toNat_ofNat']
    omega
end Go.Proofs.YtkdamaomhppkgaaGreat

/- What came in: a value, and rows of values. -/
namespace Go.Proofs.YtkdamaomhppkgaaGreat
open Go.ChangeShapes Go.WideShapes Go.ChangeAt Go.RowKit Go.Deep

theorem cellsVal : Tryz.prog.cellsOf 36 = 6 := by kernel_rfl
theorem cellsStr : Tryz.prog.cellsOf 9 = 1 := by kernel_rfl
theorem cellsU64 : Tryz.prog.cellsOf 34 = 1 := by kernel_rfl
theorem bytesVal : Tryz.prog.bytesOf 36 = 80 := by kernel_rfl
theorem weights_all {H : Type} {P : Program} {e : TypeId} : ∀ {ds : List (DataW H)} {d : DataW H}, d ∈ ds → ∀ n ∈ d.weights P e, n ∈ DataW.weightsAll P e ds
  | d0 :: ds, d, h, n, hn => by
    simp only [DataW.weightsAll, List.mem_append]
    rcases List.mem_cons.1 h with rfl | h
    · exact .inl hn
    · exact .inr (weights_all h n hn)
section
variable {H : Type} {enc : TypeId × Value → H} {W : World} {base : Nat} {sp : Nat → Bool} {held : Bool}
set_option maxRecDepth 100000 in
theorem view_val {fuel : Nat} {cs : List Value} {x : DataW H × List MemPlace} (h : DataW.trod enc Tryz.prog W base sp held fuel 36 cs = some x) (hw : ∀ n ∈ x.1.weights Tryz.prog 36, n ≤ reachBytes) :
    ∃ v : Pv, v.fits ∧ cs = [.int .i64 v.tag, .string (bs v.text), .int .u64 v.bits, .string (bs v.cls), .string (bs v.name), .string (bs v.desc)] := by
  obtain ⟨xs, n, _, hx, hlen, hlen2, hf⟩ := DataW.trod_struct Tryz.underlying36 h
  rw [cellsVal] at hlen
  match cs, hlen with
  | [a0, a1, a2, a3, a4, a5], _ =>
    have g0 := hf 0 _ rfl
    have g1 := hf 1 _ rfl
    have g2 := hf 2 _ rfl
    have g3 := hf 3 _ rfl
    have g4 := hf 4 _ rfl
    have g5 := hf 5 _ rfl
    match xs, hlen2, hx with
    | [x0, x1, x2, x3, x4, x5], _, hx =>
    simp [cellsStr, cellsInt, cellsU64] at g0 g1 g2 g3 g4 g5
    obtain ⟨t, e0, f0, w0⟩ := DataW.trod_int Tryz.underlying3 g0
    obtain ⟨s1, e1, f1, _⟩ := DataW.trod_string Tryz.underlying9 g1
    obtain ⟨b, e2, f2, w2⟩ := DataW.trod_int Tryz.underlying34 g2
    obtain ⟨s3, e3, f3, _⟩ := DataW.trod_string Tryz.underlying9 g3
    obtain ⟨s4, e4, f4, _⟩ := DataW.trod_string Tryz.underlying9 g4
    obtain ⟨s5, e5, f5, _⟩ := DataW.trod_string Tryz.underlying9 g5
    subst f0 f1 f2 f3 f4 f5
    simp only [List.cons.injEq, and_true] at e0 e1 e2 e3 e4 e5
    subst hx
    have r0 := bounds_i64 w0
    have r2 := bounds_u64 w2
    have hr2 : reachBytes + 24 ≤ 140737488355328 := by decide
    simp only [DataW.weights, Tryz.underlying36] at hw
    simp [DataW.weightsEach, DataW.weights] at hw
    have es : ∀ s : ByteArray, bs s.data.toList = s := fun s => by cases s; simp [bs]
    have eb : ((b.toNat : Nat) : Int) = b := by omega
    refine ⟨⟨t, s1.data.toList, b.toNat, s3.data.toList, s4.data.toList, s5.data.toList⟩, ⟨r0, by show b.toNat < _; omega, ?_, ?_, ?_, ?_⟩, ?_⟩
    · show s1.data.toList.length ≤ _; rw [Array.length_toList]; exact Nat.le_trans hw.1 (by omega)
    · show s3.data.toList.length ≤ _; rw [Array.length_toList]; exact Nat.le_trans hw.2.1 (by omega)
    · show s4.data.toList.length ≤ _; rw [Array.length_toList]; exact Nat.le_trans hw.2.2.1 (by omega)
    · show s5.data.toList.length ≤ _; rw [Array.length_toList]; exact Nat.le_trans hw.2.2.2 (by omega)
    · simp only [es, eb]
      rw [e0, e1, e2, e3, e4, e5]
theorem choose_lt' {n : Nat} {p : Nat → Pv → Prop} (h : ∀ i, i < n → ∃ x, p i x) : ∃ f : Nat → Pv, ∀ i, i < n → p i (f i) :=
  ⟨fun i => if hi : i < n then Classical.choose (h i hi) else Pv.zero, fun i hi => by
    simp only [hi, dite_true]
    exact Classical.choose_spec (h i hi)⟩
theorem view_vals {fuel : Nat} {cs : List Value} {x : DataW H × List MemPlace} (h : DataW.trod enc Tryz.prog W base sp held fuel 22 cs = some x) (hw : ∀ n ∈ x.1.weights Tryz.prog 22, n ≤ reachBytes) :
    ∃ A c xs, cs = [.slice A (List.length xs) c] ∧ Vals W A c xs ∧ xs.length ≤ 140737488355328 ∧ (A = none → c = 0) ∧ ∀ v ∈ xs, v.fits := by
  rcases open_slice Tryz.underlying22 h with ⟨rfl, rfl⟩ | ⟨a, len, cap, m, n, D, Pl, rfl, _, hl, _, hm, rfl, hx⟩
  · exact ⟨none, 0, [], rfl, Vals.nil _ _ _, by simp, fun _ => rfl, fun v hv => by cases hv⟩
  · have hlm : len ≤ m := by rw [hm]; split <;> omega
    rw [cellsVal] at hx
    obtain ⟨S, hS⟩ := choose_lt' (n := len) (p := fun i v => v.fits ∧ W.cells? base (a.add (i * 6)) 6 = some [.int .i64 v.tag, .string (bs v.text), .int .u64 v.bits, .string (bs v.cls), .string (bs v.name), .string (bs v.desc)]) (fun i hi => by
      obtain ⟨cs', h1, h2⟩ := hx i (by omega)
      obtain ⟨v, hv, rfl⟩ := view_val h2 (fun n hn => hw n (by
        simp only [DataW.weights, Tryz.underlying22, List.mem_cons, List.mem_append]
        exact .inr (.inl (weights_all (List.mem_map.2 ⟨i, List.mem_range.2 hi, rfl⟩) n hn))))
      exact ⟨v, hv, h1⟩)
    have hll : ((List.range len).map S).length = len := by simp
    have hat : ∀ (j : Nat) f, ((List.range len).map S)[j]? = some f → j < len ∧ f = S j := fun j f hf => by
      have hj := (List.getElem?_eq_some_iff.1 hf).1
      rw [hll] at hj
      refine ⟨hj, ?_⟩
      simp [hj] at hf
      exact hf.symm
    have hr2 : reachBytes + 24 ≤ 140737488355328 := by decide
    refine ⟨some a, cap, (List.range len).map S, by rw [hll], ⟨by rw [hll]; exact hl, fun h0 => ?_⟩, ?_, (fun e => by cases e), fun v hv => ?_⟩
    · rw [hll] at h0
      obtain ⟨_, h1⟩ := hS 0 h0
      obtain ⟨_, _, hc⟩ := World.cells?_some h1
      have h2 := hc 0 (by omega)
      rw [Nat.zero_mul] at h2
      obtain ⟨g, o, s⟩ := a
      have hs : s = none := by simpa [Addr.add] using World.cell?_spot h2
      subst hs
      refine ⟨g, o, rfl, by simpa [Addr.add] using World.block_lt_of_cell? W _ h2, fun j f hf => ?_⟩
      obtain ⟨hj, rfl⟩ := hat j f hf
      obtain ⟨_, k2⟩ := hS j hj
      obtain ⟨_, _, hc⟩ := World.cells?_some k2
      have c0 := hc 0 (by omega)
      have c1 := hc 1 (by omega)
      have c2 := hc 2 (by omega)
      have c3 := hc 3 (by omega)
      have c4 := hc 4 (by omega)
      have c5 := hc 5 (by omega)
      rw [addr_add, addr_add] at c0 c1 c2 c3 c4 c5
      exact ⟨c0, c1, c2, c3, c4, c5⟩
    · rw [hll]
      have := hw ((((List.range len).map D).length + ((List.range (m - len)).map fun j => D (len + j)).length) * Tryz.prog.bytesOf 36) (by simp only [DataW.weights, Tryz.underlying22]; exact List.mem_cons_self ..)
      rw [bytesVal] at this
      simp only [List.length_map, List.length_range] at this
      omega
    · obtain ⟨j, hj, rfl⟩ := List.mem_iff_getElem.1 hv
      obtain ⟨hj2, e⟩ := hat j _ (List.getElem?_eq_getElem hj)
      rw [e]
      exact (hS j hj2).1
end
end Go.Proofs.YtkdamaomhppkgaaGreat
