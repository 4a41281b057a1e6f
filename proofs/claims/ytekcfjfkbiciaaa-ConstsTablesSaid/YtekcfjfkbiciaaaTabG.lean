/- The walk of layer 28's first law: does a table have just these values, with their numbers. -/
import Derived.Test.YtekcfjfkbiciaaaTabA
import Derived.Test.YtekcfjfkbiciaaaTab
import Derived.Test.YtekcfjfkbiciaaaEq
import Derived.LoopN
namespace Go.Proofs.Ytekcfjfkbiciaaa
open Go.RowKit Go.Maps

/-- The thirteen counts. -/
def ct (O : List Pv) (t : Nat) : Value := .int .i64 ((Pv.row O (t : Int)).length : Nat)
def cnt (O : List Pv) : Array Value := #[ct O 0, ct O 1, ct O 2, ct O 3, ct O 4, ct O 5, ct O 6, ct O 7, ct O 8, ct O 9, ct O 10, ct O 11, ct O 12]
theorem cnt_size (O : List Pv) : (cnt O).size = 13 := rfl
theorem cnt_at (O : List Pv) {t : Nat} (ht : t < 13) : (cnt O)[t]? = some (.int .i64 ((Pv.row O (t : Int)).length : Nat)) := by
  obtain rfl | rfl | rfl | rfl | rfl | rfl | rfl | rfl | rfl | rfl | rfl | rfl | rfl : t = 0 ∨ t = 1 ∨ t = 2 ∨ t = 3 ∨ t = 4 ∨ t = 5 ∨ t = 6 ∨ t = 7 ∨ t = 8 ∨ t = 9 ∨ t = 10 ∨ t = 11 ∨ t = 12 := by omega
  all_goals rfl
theorem cnt_nil : cnt [] = #[.int .i64 0, .int .i64 0, .int .i64 0, .int .i64 0, .int .i64 0, .int .i64 0, .int .i64 0, .int .i64 0, .int .i64 0, .int .i64 0, .int .i64 0, .int .i64 0, .int .i64 0] := rfl
theorem cnt_next {O : List Pv} {i t : Nat} {v : Pv} (hv : O[i]? = some v) (ht : v.tag = (t : Int)) (h13 : t < 13) : (cnt (O.take i)).setIfInBounds t (.int .i64 (((Pv.row (O.take i) t).length : Nat) + 1)) = cnt (O.take (i + 1)) := by
  apply Array.ext_getElem?
  intro k
  rw [Array.getElem?_setIfInBounds]
  by_cases hk : k < 13
  · rw [cnt_at _ hk, cnt_at _ hk, row_snoc hv]
    by_cases e : t = k
    · subst e
      rw [if_pos rfl, if_pos (by rw [cnt_size]; exact hk), if_pos ht]
      simp
    · rw [if_neg e, if_neg (fun h => e (by omega)), List.append_nil]
  · have h1 : (cnt (O.take i))[k]? = none := Array.getElem?_eq_none (by rw [cnt_size]; omega)
    have h2 : (cnt (O.take (i + 1)))[k]? = none := Array.getElem?_eq_none (by rw [cnt_size]; omega)
    rw [h1, h2, if_neg (by omega)]
theorem ix0 (x0 x1 x2 x3 x4 x5 x6 x7 x8 x9 x10 x11 x12 : Int) (w : World) : (Instr.index 59 (.agg #[.int .i64 x0, .int .i64 x1, .int .i64 x2, .int .i64 x3, .int .i64 x4, .int .i64 x5, .int .i64 x6, .int .i64 x7, .int .i64 x8, .int .i64 x9, .int .i64 x10, .int .i64 x11, .int .i64 x12]) (.int .i64 0)).run Try.prog w = .ok (.int .i64 x0) w := by kernel_rfl
theorem ix1 (x0 x1 x2 x3 x4 x5 x6 x7 x8 x9 x10 x11 x12 : Int) (w : World) : (Instr.index 59 (.agg #[.int .i64 x0, .int .i64 x1, .int .i64 x2, .int .i64 x3, .int .i64 x4, .int .i64 x5, .int .i64 x6, .int .i64 x7, .int .i64 x8, .int .i64 x9, .int .i64 x10, .int .i64 x11, .int .i64 x12]) (.int .i64 1)).run Try.prog w = .ok (.int .i64 x1) w := by kernel_rfl
theorem ix2 (x0 x1 x2 x3 x4 x5 x6 x7 x8 x9 x10 x11 x12 : Int) (w : World) : (Instr.index 59 (.agg #[.int .i64 x0, .int .i64 x1, .int .i64 x2, .int .i64 x3, .int .i64 x4, .int .i64 x5, .int .i64 x6, .int .i64 x7, .int .i64 x8, .int .i64 x9, .int .i64 x10, .int .i64 x11, .int .i64 x12]) (.int .i64 2)).run Try.prog w = .ok (.int .i64 x2) w := by kernel_rfl
theorem ix3 (x0 x1 x2 x3 x4 x5 x6 x7 x8 x9 x10 x11 x12 : Int) (w : World) : (Instr.index 59 (.agg #[.int .i64 x0, .int .i64 x1, .int .i64 x2, .int .i64 x3, .int .i64 x4, .int .i64 x5, .int .i64 x6, .int .i64 x7, .int .i64 x8, .int .i64 x9, .int .i64 x10, .int .i64 x11, .int .i64 x12]) (.int .i64 3)).run Try.prog w = .ok (.int .i64 x3) w := by kernel_rfl
theorem ix4 (x0 x1 x2 x3 x4 x5 x6 x7 x8 x9 x10 x11 x12 : Int) (w : World) : (Instr.index 59 (.agg #[.int .i64 x0, .int .i64 x1, .int .i64 x2, .int .i64 x3, .int .i64 x4, .int .i64 x5, .int .i64 x6, .int .i64 x7, .int .i64 x8, .int .i64 x9, .int .i64 x10, .int .i64 x11, .int .i64 x12]) (.int .i64 4)).run Try.prog w = .ok (.int .i64 x4) w := by kernel_rfl
theorem ix5 (x0 x1 x2 x3 x4 x5 x6 x7 x8 x9 x10 x11 x12 : Int) (w : World) : (Instr.index 59 (.agg #[.int .i64 x0, .int .i64 x1, .int .i64 x2, .int .i64 x3, .int .i64 x4, .int .i64 x5, .int .i64 x6, .int .i64 x7, .int .i64 x8, .int .i64 x9, .int .i64 x10, .int .i64 x11, .int .i64 x12]) (.int .i64 5)).run Try.prog w = .ok (.int .i64 x5) w := by kernel_rfl
theorem ix6 (x0 x1 x2 x3 x4 x5 x6 x7 x8 x9 x10 x11 x12 : Int) (w : World) : (Instr.index 59 (.agg #[.int .i64 x0, .int .i64 x1, .int .i64 x2, .int .i64 x3, .int .i64 x4, .int .i64 x5, .int .i64 x6, .int .i64 x7, .int .i64 x8, .int .i64 x9, .int .i64 x10, .int .i64 x11, .int .i64 x12]) (.int .i64 6)).run Try.prog w = .ok (.int .i64 x6) w := by kernel_rfl
theorem ix7 (x0 x1 x2 x3 x4 x5 x6 x7 x8 x9 x10 x11 x12 : Int) (w : World) : (Instr.index 59 (.agg #[.int .i64 x0, .int .i64 x1, .int .i64 x2, .int .i64 x3, .int .i64 x4, .int .i64 x5, .int .i64 x6, .int .i64 x7, .int .i64 x8, .int .i64 x9, .int .i64 x10, .int .i64 x11, .int .i64 x12]) (.int .i64 7)).run Try.prog w = .ok (.int .i64 x7) w := by kernel_rfl
theorem ix8 (x0 x1 x2 x3 x4 x5 x6 x7 x8 x9 x10 x11 x12 : Int) (w : World) : (Instr.index 59 (.agg #[.int .i64 x0, .int .i64 x1, .int .i64 x2, .int .i64 x3, .int .i64 x4, .int .i64 x5, .int .i64 x6, .int .i64 x7, .int .i64 x8, .int .i64 x9, .int .i64 x10, .int .i64 x11, .int .i64 x12]) (.int .i64 8)).run Try.prog w = .ok (.int .i64 x8) w := by kernel_rfl
theorem ix9 (x0 x1 x2 x3 x4 x5 x6 x7 x8 x9 x10 x11 x12 : Int) (w : World) : (Instr.index 59 (.agg #[.int .i64 x0, .int .i64 x1, .int .i64 x2, .int .i64 x3, .int .i64 x4, .int .i64 x5, .int .i64 x6, .int .i64 x7, .int .i64 x8, .int .i64 x9, .int .i64 x10, .int .i64 x11, .int .i64 x12]) (.int .i64 9)).run Try.prog w = .ok (.int .i64 x9) w := by kernel_rfl
theorem ix10 (x0 x1 x2 x3 x4 x5 x6 x7 x8 x9 x10 x11 x12 : Int) (w : World) : (Instr.index 59 (.agg #[.int .i64 x0, .int .i64 x1, .int .i64 x2, .int .i64 x3, .int .i64 x4, .int .i64 x5, .int .i64 x6, .int .i64 x7, .int .i64 x8, .int .i64 x9, .int .i64 x10, .int .i64 x11, .int .i64 x12]) (.int .i64 10)).run Try.prog w = .ok (.int .i64 x10) w := by kernel_rfl
theorem ix11 (x0 x1 x2 x3 x4 x5 x6 x7 x8 x9 x10 x11 x12 : Int) (w : World) : (Instr.index 59 (.agg #[.int .i64 x0, .int .i64 x1, .int .i64 x2, .int .i64 x3, .int .i64 x4, .int .i64 x5, .int .i64 x6, .int .i64 x7, .int .i64 x8, .int .i64 x9, .int .i64 x10, .int .i64 x11, .int .i64 x12]) (.int .i64 11)).run Try.prog w = .ok (.int .i64 x11) w := by kernel_rfl
theorem ix12 (x0 x1 x2 x3 x4 x5 x6 x7 x8 x9 x10 x11 x12 : Int) (w : World) : (Instr.index 59 (.agg #[.int .i64 x0, .int .i64 x1, .int .i64 x2, .int .i64 x3, .int .i64 x4, .int .i64 x5, .int .i64 x6, .int .i64 x7, .int .i64 x8, .int .i64 x9, .int .i64 x10, .int .i64 x11, .int .i64 x12]) (.int .i64 12)).run Try.prog w = .ok (.int .i64 x12) w := by kernel_rfl
theorem cnt_box {w : World} {B : Nat} {O : List Pv} (h : w.heap[B]? = some (.cells (cnt O) 59 (0, 0))) {t : Nat} (ht : t < 13) : w.cell? ⟨B, t, none⟩ = some (.int .i64 ((Pv.row O (t : Int)).length : Nat)) ∧ w.frozen? ⟨B, t, none⟩ = false :=
  ⟨((blk_facts h).1 t).trans (cnt_at O ht), (blk_facts h).2 t⟩
set_option maxRecDepth 100000 in
set_option maxHeartbeats 4000000 in
theorem tells_any (base b m n : Nat) (us : Nat → Value) (O : List Pv) (A : Option Addr) (c : Nat) (w : World) (h : TabOf w base b m n us O) (hV : Vals w A c O) (hok : ∀ v ∈ O, v.chk 0 9 5 = 0) (hf : ∀ v ∈ O, v.fits) (hnd : O.Nodup) (hO : O.length ≤ 100000) :
    Calls Try.prog 11 #[.pointer (some ⟨b, 0, none⟩), .slice A O.length c] w fun e w' => e = .returned (.bool true) ∧ Below w.heap.size w w' := by
  have HT := Lib.hid h
  have HV := Lib.hid hV
  have HOK := Lib.hid hok
  have HF := Lib.hid hf
  have HND := Lib.hid hnd
  clear h hV hok hf hnd
  have k0 := Lib.hid ((Below.refl w.heap.size w).alloc (Nat.le_refl _) (.cells (cnt []) 59))
  have q0 := Lib.hid (show (w.alloc (.cells (cnt []) 59)).heap[w.heap.size]? = some (.cells (cnt (O.take 0)) 59 (0, 0)) from heap_alloc_new _ _)
  rw [cnt_nil] at k0
  go_enter Try.func11, Try.ntmps11
  go_wp2_with fail
  rw [← cnt_nil] at k0
  rw [← cnt_nil]
  generalize w.alloc (.cells (cnt []) 59) = W at k0 q0 ⊢
  go_loopw [16] (fun t wr => ∃ i : Nat, i ≤ O.length ∧ t = .int .i64 i ∧ wr.heap[w.heap.size]? = some (.cells (cnt (O.take i)) 59 (0, 0)) ∧ Below w.heap.size w wr) (fun t _ => O.length - (intOf t).toNat)
  case atStart => exact ⟨0, Nat.zero_le _, rfl, q0.out, k0.out⟩
  case round =>
    obtain ⟨i, hil, rfl, hq, hB⟩ := hrel
    have MQ := Lib.hid hq
    have MB := Lib.hid hB
    clear hq hB q0 k0
    by_cases hi : i < O.length
    · obtain ⟨g, o, v, rfl, hg, hv, c0, c1, c2, c3, c4, c5⟩ := (HV.out.grow MB.out).at_ hi
      obtain ⟨tag, text, bits, cls, name, desc⟩ := v
      have hm := List.mem_of_getElem? hv
      have htg := chk_tag (HOK.out _ hm)
      dsimp only at htg c0 c1 c2 c3 c4 c5
      obtain ⟨t, rfl⟩ : ∃ t : Nat, tag = (t : Int) := ⟨tag.toNat, by omega⟩
      have ht13 : t < 13 := by omega
      have p1 : decide ((i : Int) < (O.length : Int)) = true := decide_eq_true (by omega)
      have p2 : decide (i < O.length) = true := decide_eq_true hi
      have hrk := rk_take HND.out hv
      have HNX := Lib.hid (cnt_next hv rfl ht13)
      have hget := row_get hm
      have k1 := Lib.hid ((Below.refl wr.heap.size wr).alloc (Nat.le_refl _) (.cells #[.int .i64 (t : Int), .string (bs text), .int .u64 bits, .string (bs cls), .string (bs name), .string (bs desc)] 25))
      have q1 := Lib.hid (show VBox (wr.alloc (.cells #[.int .i64 (t : Int), .string (bs text), .int .u64 bits, .string (bs cls), .string (bs name), .string (bs desc)] 25)) wr.heap.size (⟨(t : Int), text, bits, cls, name, desc⟩ : Pv) from heap_alloc_new _ _)
      have B1 := Lib.hid (MB.out.trans (k1.out.mono MB.out.size))
      have hnum := tnumber_any base b m n us O (⟨(t : Int), text, bits, cls, name, desc⟩ : Pv) _ (HT.out.grow B1.out) (HF.out _ hm).k
      rw [nums_all, if_pos hm, decide_eq_true hm] at hnum
      unfold vv at hnum
      have HN := Lib.hid hnum
      have hat := fun (y : World) (k : Below w.heap.size w y) => at_in base b m n us O (t : Int) _ (⟨(t : Int), text, bits, cls, name, desc⟩ : Pv) y (HT.out.grow k) HOK.out hget
      unfold vv at hat
      have HA := Lib.hid hat
      have hex := fun x => (eq_val (⟨(t : Int), text, bits, cls, name, desc⟩ : Pv) (⟨(t : Int), text, bits, cls, name, desc⟩ : Pv) x).trans (by rw [decide_eq_true rfl])
      unfold vv at hex
      have he := hex
      have HRK := Lib.hid hrk
      have hrl := row_len (O.take i) (t : Int)
      rw [List.length_take] at hrl
      clear hv hm htg hget hnum hat hex hrk
      dsimp only at he
      generalize Pv.rk O (⟨(t : Int), text, bits, cls, name, desc⟩ : Pv) = r at *
      go_wp2_with fail
      refine HN.out.mono ?_
      rintro e x2 ⟨rfl, hb2⟩
      have B2 := Lib.hid (B1.out.trans (hb2.mono B1.out.size))
      have q2 := Lib.hid (q1.out.keep hb2 q1.out.lt)
      have k2 := Lib.hid (k1.out.trans (hb2.mono k1.out.size))
      obtain ⟨d0, d1, d2, d3, d4, d5⟩ := VBox.at_ (v := (⟨(t : Int), text, bits, cls, name, desc⟩ : Pv)) q2.out
      have hz : wr.heap.size < x2.heap.size := (Array.getElem?_eq_some_iff.1 q2.out).1
      dsimp only at d0 d1 d2 d3 d4 d5
      clear hb2 HN B1 q1 k1 c0 c1 c2 c3 c4 c5
      go_wp2_with fail
      refine (HA.out x2 B2.out).mono ?_
      rintro e x3 ⟨rfl, hb3⟩
      have B3 := Lib.hid (B2.out.trans (hb3.mono B2.out.size))
      have q3 := Lib.hid (VBox.keep (v := (⟨(t : Int), text, bits, cls, name, desc⟩ : Pv)) q2.out hb3 hz)
      have k3 := Lib.hid (k2.out.trans (hb3.mono k2.out.size))
      clear d0 d1 d2 d3 d4 d5 hz hb3 HA B2 q2 k2
      obtain ⟨d0, d1, d2, d3, d4, d5⟩ := VBox.at_ (v := (⟨(t : Int), text, bits, cls, name, desc⟩ : Pv)) q3.out
      have hz : wr.heap.size < x3.heap.size := (Array.getElem?_eq_some_iff.1 q3.out).1
      dsimp only at d0 d1 d2 d3 d4 d5
      have kw := Lib.hid ((Below.refl x3.heap.size x3).alloc (Nat.le_refl _) (.cells #[.int .i64 (t : Int), .string (bs text), .int .u64 bits, .string (bs cls), .string (bs name), .string (bs desc)] 25))
      have hwq : w.heap.size < wr.heap.size := (Array.getElem?_eq_some_iff.1 MQ.out).1
      have hq3 := (k3.out.block w.heap.size hwq).trans MQ.out
      obtain ⟨a0, a1⟩ := cnt_box hq3 ht13
      have hrk2 := HRK.out
      rw [← hrk2] at a0
      have i1 : (t : Int) < 13 := by omega
      have i2 : decide (t < 13) = true := decide_eq_true ht13
      have hwx : w.heap.size < x3.heap.size := by omega
      have HQ3 := Lib.hid hq3
      have hrb : r ≤ 100000 := by have h := HRK.out; omega
      clear hq3 hrk2 kw
      go_wp2_with fail
      have hqs : (x3.setCell ⟨w.heap.size, t, none⟩ (.int .i64 ((r : Int) + 1))).heap[w.heap.size]? = some (.cells (cnt (O.take (i + 1))) 59 (0, 0)) := box_set HQ3.out _ (by
        have h := HNX.out
        have h2 := HRK.out
        rw [← h2] at h
        exact h)
      have NQ := Lib.hid (show ((x3.setCell ⟨w.heap.size, t, none⟩ (.int .i64 ((r : Int) + 1))).alloc (.cells #[.int .i64 (t : Int), .string (bs text), .int .u64 bits, .string (bs cls), .string (bs name), .string (bs desc)] 25)).heap[w.heap.size]? = some (.cells (cnt (O.take (i + 1))) 59 (0, 0)) from (heap_alloc_old _ _ (Array.getElem?_eq_some_iff.1 hqs).1).trans hqs)
      have hBs := B3.out.setCell (p := ⟨w.heap.size, t, none⟩) (Nat.le_refl _) (.int .i64 ((r : Int) + 1))
      have NB := Lib.hid (show Below w.heap.size w ((x3.setCell ⟨w.heap.size, t, none⟩ (.int .i64 ((r : Int) + 1))).alloc (.cells #[.int .i64 (t : Int), .string (bs text), .int .u64 bits, .string (bs cls), .string (bs name), .string (bs desc)] 25)) from hBs.alloc hBs.size _)
      go_roundw
      case rel => exact ⟨i + 1, by omega, by go_num, NQ.out, NB.out⟩
      case measure => simp [intOf]; omega
    · obtain rfl : i = O.length := by omega
      have p1 : decide ((O.length : Int) < (O.length : Int)) = false := decide_eq_false (by omega)
      have p2 : decide (O.length < O.length) = false := decide_eq_false (by omega)
      rw [List.take_length] at MQ
      have HLN := Lib.hid (fun (tag : Int) => len_any base b m n us O tag wr (HT.out.grow MB.out) HOK.out)
      have a0 : wr.cell? ⟨w.heap.size, 0, none⟩ = some (.int .i64 (((Pv.row O 0).length : Nat) : Int)) := (cnt_box MQ.out (t := 0) (by omega)).1
      have a1 : wr.cell? ⟨w.heap.size, 1, none⟩ = some (.int .i64 (((Pv.row O 1).length : Nat) : Int)) := (cnt_box MQ.out (t := 1) (by omega)).1
      have a2 : wr.cell? ⟨w.heap.size, 2, none⟩ = some (.int .i64 (((Pv.row O 2).length : Nat) : Int)) := (cnt_box MQ.out (t := 2) (by omega)).1
      have a3 : wr.cell? ⟨w.heap.size, 3, none⟩ = some (.int .i64 (((Pv.row O 3).length : Nat) : Int)) := (cnt_box MQ.out (t := 3) (by omega)).1
      have a4 : wr.cell? ⟨w.heap.size, 4, none⟩ = some (.int .i64 (((Pv.row O 4).length : Nat) : Int)) := (cnt_box MQ.out (t := 4) (by omega)).1
      have a5 : wr.cell? ⟨w.heap.size, 5, none⟩ = some (.int .i64 (((Pv.row O 5).length : Nat) : Int)) := (cnt_box MQ.out (t := 5) (by omega)).1
      have a6 : wr.cell? ⟨w.heap.size, 6, none⟩ = some (.int .i64 (((Pv.row O 6).length : Nat) : Int)) := (cnt_box MQ.out (t := 6) (by omega)).1
      have a7 : wr.cell? ⟨w.heap.size, 7, none⟩ = some (.int .i64 (((Pv.row O 7).length : Nat) : Int)) := (cnt_box MQ.out (t := 7) (by omega)).1
      have a8 : wr.cell? ⟨w.heap.size, 8, none⟩ = some (.int .i64 (((Pv.row O 8).length : Nat) : Int)) := (cnt_box MQ.out (t := 8) (by omega)).1
      have a9 : wr.cell? ⟨w.heap.size, 9, none⟩ = some (.int .i64 (((Pv.row O 9).length : Nat) : Int)) := (cnt_box MQ.out (t := 9) (by omega)).1
      have a10 : wr.cell? ⟨w.heap.size, 10, none⟩ = some (.int .i64 (((Pv.row O 10).length : Nat) : Int)) := (cnt_box MQ.out (t := 10) (by omega)).1
      have a11 : wr.cell? ⟨w.heap.size, 11, none⟩ = some (.int .i64 (((Pv.row O 11).length : Nat) : Int)) := (cnt_box MQ.out (t := 11) (by omega)).1
      have a12 : wr.cell? ⟨w.heap.size, 12, none⟩ = some (.int .i64 (((Pv.row O 12).length : Nat) : Int)) := (cnt_box MQ.out (t := 12) (by omega)).1
      have hz := (Array.getElem?_eq_some_iff.1 MQ.out).1
      go_wp2_with fail
      have j0 := ix0
      have j1 := ix1
      have j2 := ix2
      have j3 := ix3
      have j4 := ix4
      have j5 := ix5
      have j6 := ix6
      have j7 := ix7
      have j8 := ix8
      have j9 := ix9
      have j10 := ix10
      have j11 := ix11
      have j12 := ix12
      refine wp_loop_rounds 14 ?_
      rw [rounds_succ]
      go_wp2_with fail
      refine (HLN.out 0).mono ?_
      rintro e x ⟨rfl, rfl⟩
      go_wp2_with fail
      rw [rounds_succ]
      go_wp2_with fail
      refine (HLN.out 1).mono ?_
      rintro e x ⟨rfl, rfl⟩
      go_wp2_with fail
      rw [rounds_succ]
      go_wp2_with fail
      refine (HLN.out 2).mono ?_
      rintro e x ⟨rfl, rfl⟩
      go_wp2_with fail
      rw [rounds_succ]
      go_wp2_with fail
      refine (HLN.out 3).mono ?_
      rintro e x ⟨rfl, rfl⟩
      go_wp2_with fail
      rw [rounds_succ]
      go_wp2_with fail
      refine (HLN.out 4).mono ?_
      rintro e x ⟨rfl, rfl⟩
      go_wp2_with fail
      rw [rounds_succ]
      go_wp2_with fail
      refine (HLN.out 5).mono ?_
      rintro e x ⟨rfl, rfl⟩
      go_wp2_with fail
      rw [rounds_succ]
      go_wp2_with fail
      refine (HLN.out 6).mono ?_
      rintro e x ⟨rfl, rfl⟩
      go_wp2_with fail
      rw [rounds_succ]
      go_wp2_with fail
      refine (HLN.out 7).mono ?_
      rintro e x ⟨rfl, rfl⟩
      go_wp2_with fail
      rw [rounds_succ]
      go_wp2_with fail
      refine (HLN.out 8).mono ?_
      rintro e x ⟨rfl, rfl⟩
      go_wp2_with fail
      rw [rounds_succ]
      go_wp2_with fail
      refine (HLN.out 9).mono ?_
      rintro e x ⟨rfl, rfl⟩
      go_wp2_with fail
      rw [rounds_succ]
      go_wp2_with fail
      refine (HLN.out 10).mono ?_
      rintro e x ⟨rfl, rfl⟩
      go_wp2_with fail
      rw [rounds_succ]
      go_wp2_with fail
      refine (HLN.out 11).mono ?_
      rintro e x ⟨rfl, rfl⟩
      go_wp2_with fail
      rw [rounds_succ]
      go_wp2_with fail
      refine (HLN.out 12).mono ?_
      rintro e x ⟨rfl, rfl⟩
      go_wp2_with fail
      rw [rounds_succ]
      go_wp2_with fail
      go_ret
      exact ⟨rfl, MB.out⟩
end Go.Proofs.Ytekcfjfkbiciaaa
