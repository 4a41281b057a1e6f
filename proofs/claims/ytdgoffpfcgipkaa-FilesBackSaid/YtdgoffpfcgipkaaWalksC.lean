/- The walk of layer 32: check. -/
import Derived.Test.YtdgoffpfcgipkaaWalksB
import Derived.Shelf.SlicesE.IndexFunc
namespace Go.Proofs.Ytdgoffpfcgipkaa
open Go.RowKit

/-- A number that an int holds. -/
def nx (x : Int) : Int := if -9223372036854775808 ≤ x ∧ x ≤ 9223372036854775807 then x else 0
theorem nx_in (x : Int) : I64 (nx x) := by
  unfold nx I64
  split
  · assumption
  · omega
theorem nx_same {x : Int} (h : I64 x) : nx x = x := if_pos h
def ms (m : Int) : Nat → Int
  | 0 => m
  | 1 => 65535
  | 2 => 65535
  | _ => 16777217

set_option maxHeartbeats 2000000 in
theorem chk1_at (m : Int) (i B1 B2 : Nat) (w : World) (hi : i < 4) (hB1 : B1 < w.heap.size) (hB2 : B2 < w.heap.size) (hc1 : w.cell? ⟨B1, i, none⟩ = some (.int .i64 (ms m i))) (hc2 : w.cell? ⟨B2, 0, none⟩ = some (.int .i64 (i : Int))) :
    PredAt Try.prog 23 #[.pointer (some ⟨B1, 0, none⟩), .pointer (some ⟨B2, 0, none⟩)] (fun x : Int => .int .i64 (nx x)) (fun x => decide (nx x < 0) || decide (ms m i < nx x)) w := fun W x hb => by
  have e1 : W.cell? ⟨B1, i, none⟩ = some (.int .i64 (ms m i)) := (hb.cell (p := ⟨B1, i, none⟩) hB1).trans hc1
  have e2 : W.cell? ⟨B2, 0, none⟩ = some (.int .i64 (i : Int)) := (hb.cell (p := ⟨B2, 0, none⟩) hB2).trans hc2
  have p1 : decide ((i : Int) < 4) = true := decide_eq_true (by omega)
  have p2 : decide (i < 4) = true := decide_eq_true hi
  show Calls Try.prog 23 #[.int .i64 (nx x), .pointer (some ⟨B1, 0, none⟩), .pointer (some ⟨B2, 0, none⟩)] W (fun e w' => e = .returned (.bool (decide (nx x < 0) || decide (ms m i < nx x))) ∧ ∃ q, w' = W.drewN q)
  clear hb hc1 hc2
  generalize nx x = y
  generalize ms m i = z at e1 ⊢
  by_cases h0 : y < 0
  · have u1 : decide (y < 0) = true := decide_eq_true h0
    rw [u1]
    go_enter Try.func23, Try.ntmps23
    go_wp2
    go_ret
    exact ⟨rfl, 0, rfl⟩
  · have u1 : decide (y < 0) = false := decide_eq_false h0
    rw [u1]
    by_cases h1 : z < y
    · have u2 : decide (z < y) = true := decide_eq_true h1
      rw [u2]
      go_enter Try.func23, Try.ntmps23
      go_wp2
      go_ret
      exact ⟨rfl, 0, rfl⟩
    · have u2 : decide (z < y) = false := decide_eq_false h1
      rw [u2]
      go_enter Try.func23, Try.ntmps23
      go_wp2
      go_ret
      exact ⟨rfl, 0, rfl⟩
theorem contains_none (A : Option Addr) (c : Nat) (rs : List Int) (m : Int) (i B1 B2 : Nat) (w : World) (hx : Ints w A c rs) (hI : ∀ x ∈ rs, I64 x ∧ 0 ≤ x ∧ x ≤ ms m i) (hn : rs.length ≤ 1000000) (hi : i < 4) (hB1 : B1 < w.heap.size) (hB2 : B2 < w.heap.size) (hc1 : w.cell? ⟨B1, i, none⟩ = some (.int .i64 (ms m i))) (hc2 : w.cell? ⟨B2, 0, none⟩ = some (.int .i64 (i : Int))) :
    Calls Try.prog 22 #[.slice A rs.length c, .func (.func 23) #[] #[.pointer (some ⟨B1, 0, none⟩), .pointer (some ⟨B2, 0, none⟩)]] w fun e w' => e = .returned (.bool false) ∧ Below w.heap.size w w' := by
  by_cases h0 : rs.length = 0
  · obtain rfl := List.eq_nil_of_length_eq_zero h0
    refine Calls.mono (AnyE.slices_ContainsFunc_empty Try.conA A c (.func (.func 23) #[] #[.pointer (some ⟨B1, 0, none⟩), .pointer (some ⟨B2, 0, none⟩)]) w) ?_
    rintro e w' ⟨rfl, rfl⟩
    exact ⟨rfl, Below.refl _ _⟩
  · obtain ⟨g, o, rfl, hg, hcell⟩ := hx.2 (by omega)
    have hget : ∀ j, j < rs.length → rs[j]? = some rs[j]! := fun j hj => by rw [List.getElem!_eq_getElem?_getD, List.getElem?_eq_getElem hj]; rfl
    have eg : ∀ args w, (callFunc 23 args).run Try.prog w = .ok (.enter 23 args) w := enters_of Try.func23 (by kernel_rfl) rfl
    have hcon := AnyE.slices_ContainsFunc Try.conA (fun x : Int => .int .i64 (nx x)) (fun x => decide (nx x < 0) || decide (ms m i < nx x)) 23 #[.pointer (some ⟨B1, 0, none⟩), .pointer (some ⟨B2, 0, none⟩)] eg g o rs.length c rs w (chk1_at m i B1 B2 w hi hB1 hB2 hc1 hc2) (Nat.le_refl _) (by omega)
      (fun j hj => by
        have := hcell j _ (hget j hj)
        rw [this, nx_same (hI _ (List.mem_of_getElem? (hget j hj))).1])
    refine hcon.mono ?_
    rintro e w' ⟨rfl, q, rfl⟩
    refine ⟨?_, below_drewN (Below.refl _ _) q⟩
    rw [List.take_length]
    have : (rs.any fun x => decide (nx x < 0) || decide (ms m i < nx x)) = false := by
      rw [List.any_eq_false]
      intro x hx
      obtain ⟨h1, h2, h3⟩ := hI x hx
      rw [nx_same h1]
      simp
      omega
    rw [this]

/-- What a file must be that its columns go through. -/
def Fi.fine (ns : List (List UInt8)) (f : Fi) : Prop := f.ok ∧ f.name ∈ ns ∧ f.data.length ≤ 100000
theorem Fi.col_le {ns : List (List UInt8)} {f : Fi} (h : f.fine ns) (hn : ns.length ≤ 1000000) (j : Nat) (hj : j < 4) : I64 (Fi.col ns j f : Int) ∧ 0 ≤ (Fi.col ns j f : Int) ∧ (Fi.col ns j f : Int) ≤ ms ((ns.length : Int) - 1) j := by
  obtain ⟨hok, hm, hd⟩ := h
  refine ⟨Fi.col_int hok hn (by omega) hm j, by omega, ?_⟩
  have h3 := (Fi.num_at hm).1
  obtain ⟨h1, h2⟩ := hok
  match j, hj with
  | 0, _ => show ((Fi.num ns f.name : Nat) : Int) ≤ (ns.length : Int) - 1; omega
  | 1, _ => show ((f.date : Nat) : Int) ≤ 65535; omega
  | 2, _ => show ((f.clock : Nat) : Int) ≤ 65535; omega
  | 3, _ =>
    show ((Fi.size f : Nat) : Int) ≤ 16777217
    unfold Fi.size; split <;> omega

set_option maxHeartbeats 8000000 in
set_option maxRecDepth 100000 in
theorem check_any (An : Option Addr) (cn : Nat) (ns : List (List UInt8)) (R : Nat) (l : List Fi) (w : World) (hC : Cols w R (Fi.cols ns l)) (hok : ∀ f ∈ l, f.fine ns) (hn : l.length ≤ 100000) (hnn : ns.length ≤ 1000000) :
    Calls Try.prog 13 #[.slice An ns.length cn, .slice (some ⟨R, 0, none⟩) 4 4] w fun e w' => e = .returned (.int .i64 0) ∧ Below w.heap.size w w' := by
  have HC := Lib.hid hC
  have HOK := Lib.hid hok
  have hll : ∀ j, (Fi.cols ns l j).length = l.length := fun j => by unfold Fi.cols; simp
  have HLL := Lib.hid hll
  obtain ⟨A0, c0, hc0, _⟩ := hC.2 0 (by omega)
  rw [hll 0] at hc0
  have hRw := hC.1
  clear hC hok hll
  have q4 : decide ((4 : Int) ≠ 4) = false := rfl
  go_enter Try.func13, Try.ntmps13
  go_wp2_with fail
  go_loopw [15] (fun u wr => ∃ i : Nat, i ≤ 4 ∧ u = .int .i64 i ∧ wr = w) (fun u _ => 4 - (intOf u).toNat)
  case atStart => exact ⟨0, by omega, rfl, rfl⟩
  case round =>
    obtain ⟨i, hil, rfl, rfl⟩ := hrel
    by_cases hi : i < 4
    · obtain ⟨Ai, ci, hci, _⟩ := HC.out.2 i hi
      rw [HLL.out i] at hci
      have p1 : decide ((i : Int) < 4) = true := decide_eq_true (by omega)
      have p2 : decide (i < 4) = true := decide_eq_true hi
      have p3 : ((l.length : Int) != (l.length : Int)) = false := by simp
      go_wp2
      go_roundw
      case rel => exact ⟨i + 1, by omega, by go_num, trivial⟩
      case measure => simp [intOf]; omega
    · have p1 : decide ((i : Int) < 4) = false := decide_eq_false (by omega)
      go_wp2_with fail
      have kA := (Below.refl wr.heap.size wr).alloc (Nat.le_refl _) (.cells #[.int .i64 ((ns.length : Int) - 1), .int .i64 65535, .int .i64 65535, .int .i64 16777217] 51)
      have qA : (wr.alloc (.cells #[.int .i64 ((ns.length : Int) - 1), .int .i64 65535, .int .i64 65535, .int .i64 16777217] 51)).heap[wr.heap.size]? = some (.cells #[.int .i64 ((ns.length : Int) - 1), .int .i64 65535, .int .i64 65535, .int .i64 16777217] 51 (0, 0)) := heap_alloc_new _ _
      have HCA := Lib.hid (HC.out.grow kA)
      have KA := Lib.hid kA
      generalize wr.alloc (.cells #[.int .i64 ((ns.length : Int) - 1), .int .i64 65535, .int .i64 65535, .int .i64 16777217] 51) = wa at kA qA HCA KA ⊢
      have QA := Lib.hid qA
      have zA : wr.heap.size < wa.heap.size := (Array.getElem?_eq_some_iff.1 qA).1
      have hRa := HCA.out.1
      clear kA qA hc0
      go_loopw [33] (fun u wq => ∃ k : Nat, k ≤ 4 ∧ u = .int .i64 k ∧ Below wa.heap.size wa wq) (fun u _ => 4 - (intOf u).toNat)
      case atStart => exact ⟨0, by omega, rfl, Below.refl _ _⟩
      case round =>
        rename World => wq
        obtain ⟨k, hkl, rfl, hB⟩ := hrel
        have HB := Lib.hid hB
        by_cases hk : k < 4
        · obtain ⟨Ak, ck, hck, hIk⟩ := (HCA.out.grow hB).2 k hk
          have p4 : decide ((k : Int) < 4) = true := decide_eq_true (by omega)
          have p5 : decide (k < 4) = true := decide_eq_true hk
          have k1 := (Below.refl wq.heap.size wq).alloc (Nat.le_refl _) (.cells #[.int .i64 (k : Int)] 3)
          have q1 : (wq.alloc (.cells #[.int .i64 (k : Int)] 3)).heap[wq.heap.size]? = some (.cells #[.int .i64 (k : Int)] 3 (0, 0)) := heap_alloc_new _ _
          have qa1 := (k1.block wr.heap.size (Nat.lt_of_lt_of_le zA hB.size)).trans ((hB.block wr.heap.size zA).trans QA.out)
          have hcall := Lib.hid (contains_none Ak ck (Fi.cols ns l k) ((ns.length : Int) - 1) k wr.heap.size wq.heap.size (wq.alloc (.cells #[.int .i64 (k : Int)] 3)) (hIk.grow k1) (fun x hx => by
            unfold Fi.cols at hx
            obtain ⟨f, hf, rfl⟩ := List.mem_map.1 hx
            exact Fi.col_le (HOK.out f hf) hnn k hk) (by rw [HLL.out]; omega) hk (Array.getElem?_eq_some_iff.1 qa1).1 (Array.getElem?_eq_some_iff.1 q1).1
            (by rw [(blk_facts qa1).1 k]; match k, hk with | 0, _ => rfl | 1, _ => rfl | 2, _ => rfl | 3, _ => rfl) ((blk_facts q1).1 0))
          have K1 := Lib.hid (Below.after' hB k1 (Nat.le_refl _))
          clear hB hIk k1 q1 qa1
          go_wp2_with fail
          refine hcall.out.mono ?_
          rintro e w2 ⟨rfl, hb2⟩
          have K2 := Lib.hid (Below.after' K1.out hb2 (Nat.le_refl _))
          clear hb2
          go_wp2
          go_roundw
          case rel => exact ⟨k + 1, by omega, by go_num, K2.out⟩
          case measure => simp [intOf]; omega
        · have p4 : decide ((k : Int) < 4) = false := decide_eq_false (by omega)
          clear hB
          go_wp2
          go_ret
          exact ⟨rfl, Below.after' KA.out HB.out (Nat.le_refl _)⟩
end Go.Proofs.Ytdgoffpfcgipkaa
