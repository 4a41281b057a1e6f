/- The walk of layer 14: small letters, in a row that is made of a text. -/
import Derived.Test.YtbjhnfemlpbchaaWalksF
namespace Go.Proofs.Ytbjhnfemlpbchaa
open Go.RowKit

/-- A block whose first cells are these bytes, and may be written. -/
def FRow (w : World) (b : Nat) (l : List UInt8) : Prop := ∃ c t m, w.heap[b]? = some (.cells c t (m, m + 1)) ∧ l.length ≤ m ∧ l.length ≤ c.size ∧ ∀ (j : Nat) x, l[j]? = some x → c[j]? = some (.int .u8 (x.toNat : Int))
theorem FRow.cell {w : World} {b : Nat} {l : List UInt8} (h : FRow w b l) {j : Nat} {x : UInt8} (hx : l[j]? = some x) : w.cell? ⟨b, j, none⟩ = some (.int .u8 (x.toNat : Int)) := by
  obtain ⟨c, t, m, hb, _, _, hc⟩ := h
  simp [World.cell?, hb, hc j x hx]
theorem FRow.frozen {w : World} {b : Nat} {l : List UInt8} (h : FRow w b l) {j : Nat} (hj : j < l.length) : w.frozen? ⟨b, j, none⟩ = false := by
  obtain ⟨c, t, m, hb, hm, _, _⟩ := h
  simp only [World.frozen?, hb]
  simp; omega
theorem FRow.set {w : World} {b : Nat} {l : List UInt8} (h : FRow w b l) {j : Nat} (hj : j < l.length) (y : UInt8) : FRow (w.setCell ⟨b, j, none⟩ (.int .u8 (y.toNat : Int))) b (l.set j y) := by
  obtain ⟨c, t, m, hb, hm, hs, hc⟩ := h
  refine ⟨c.setIfInBounds j (.int .u8 (y.toNat : Int)), t, m, ?_, by simpa using hm, by simpa using hs, fun k x hx => ?_⟩
  · simp [World.setCell, Array.getElem?_modify, hb]
  · rw [Array.getElem?_setIfInBounds]
    rw [List.getElem?_set] at hx
    by_cases e : j = k
    · subst e
      rw [if_pos rfl] at hx ⊢
      rw [if_pos (by omega)]
      rw [if_pos hj] at hx
      cases hx; rfl
    · rw [if_neg e] at hx ⊢
      exact hc k x hx
theorem FRow.made (w : World) (l : List UInt8) (cap : Nat) (t : TypeId) : FRow (w.drew.alloc (.cells (bytesRow (bs l) cap) t ((bytesRow (bs l) cap).size, (bytesRow (bs l) cap).size + 1))) w.heap.size l := by
  have hsz : l.length ≤ (bytesRow (bs l) cap).size := by unfold bytesRow bs; simp
  refine ⟨_, t, _, heap_alloc_new w.drew _, hsz, hsz, fun j x hx => ?_⟩
  obtain ⟨h1, rfl⟩ := List.getElem?_eq_some_iff.1 hx
  unfold bytesRow bs
  rw [Array.getElem?_append_left (by simpa using h1)]
  simp [h1]

def Ma.mid (l : List UInt8) (i : Nat) : List UInt8 := Ma.small (l.take i) ++ l.drop i
theorem Ma.mid_len (l : List UInt8) (i : Nat) : (Ma.mid l i).length = l.length := by
  unfold Ma.mid Ma.small
  rw [List.length_append, List.length_map, List.length_take, List.length_drop]; omega
theorem Ma.mid_at {l : List UInt8} {i : Nat} {c : UInt8} (h : l[i]? = some c) : (Ma.mid l i)[i]? = some c := by
  obtain ⟨h1, rfl⟩ := List.getElem?_eq_some_iff.1 h
  unfold Ma.mid Ma.small
  rw [List.getElem?_append_right (by rw [List.length_map, List.length_take]; omega), List.length_map, List.length_take]
  simp [show min i l.length = i from by omega]
theorem Ma.mid_next {l : List UInt8} {i : Nat} {c : UInt8} (h : l[i]? = some c) : (Ma.mid l i).set i (Ma.low c) = Ma.mid l (i + 1) := by
  have hs := Ma.small_snoc h
  obtain ⟨h1, rfl⟩ := List.getElem?_eq_some_iff.1 h
  unfold Ma.mid
  rw [hs]
  have hl : (Ma.small (l.take i)).length = i := by unfold Ma.small; rw [List.length_map, List.length_take]; omega
  rw [List.set_append_right _ _ (by omega), hl, Nat.sub_self, List.drop_eq_getElem_cons h1, List.append_assoc]
  rfl
theorem Ma.mid_same {l : List UInt8} {i : Nat} {c : UInt8} (h : l[i]? = some c) (hc : ¬ (65 ≤ c.toNat ∧ c.toNat ≤ 90)) : Ma.mid l i = Ma.mid l (i + 1) := by
  rw [← Ma.mid_next h]
  have e : Ma.low c = c := if_neg hc
  rw [e]
  have hm := Ma.mid_at h
  apply List.ext_getElem?
  intro k
  rw [List.getElem?_set]
  by_cases hk : i = k
  · subst hk
    rw [if_pos rfl, if_pos (List.getElem?_eq_some_iff.1 hm).1, hm]
  · rw [if_neg hk]

set_option maxRecDepth 100000 in
theorem or32 : ∀ n : Fin 256, 65 ≤ n.val → n.val ≤ 90 → bits BinOp.or IntKind.u8 (n.val : Int) 32 = (n.val : Int) + 32 := by decide

set_option maxHeartbeats 4000000 in
set_option maxRecDepth 100000 in
theorem small_wide (l : List UInt8) (w : World) (hl : l.length ≤ 140737488355328) :
    Calls Try.prog 35 #[.string (bs l)] w fun e w' => e = .returned (.string (bs (Ma.small l))) ∧ Below w.heap.size w w' := by
  have hzl := bs_size l
  have hcv := fun x => run_bytes_of_string x 9 22 5 (bs l) Try.underlying9 Try.underlying22 Try.underlying5
  rw [hzl] at hcv
  go_enter Try.func35, Try.ntmps35
  go_wp2_with fail
  go_loopw [10] (fun u wr => ∃ i : Nat, i ≤ l.length ∧ u = .int .i64 i ∧ FRow wr w.heap.size (Ma.mid l i) ∧ Below w.heap.size w wr) (fun u _ => l.length - (intOf u).toNat)
  case atStart => exact ⟨0, Nat.zero_le _, rfl, FRow.made w l _ 5, ((Below.refl _ _).alloc (Nat.le_refl _) _).drew⟩
  case round =>
    obtain ⟨i, hil, rfl, hF, hB⟩ := hrel
    have HB := Lib.hid hB
    have HF := Lib.hid hF
    clear hB
    by_cases h1 : i < l.length
    · obtain ⟨c, hcl⟩ : ∃ c, l[i]? = some c := ⟨_, List.getElem?_eq_getElem h1⟩
      have hcell := hF.cell (Ma.mid_at hcl)
      have hfr := hF.frozen (j := i) (by rw [Ma.mid_len]; exact h1)
      have hset := Lib.hid (hF.set (j := i) (by rw [Ma.mid_len]; exact h1) (Ma.low c))
      have hnx := Lib.hid (Ma.mid_next hcl)
      have hlow := low_nat c
      have hc8 := c.toNat_lt
      by_cases hu : 65 ≤ c.toNat ∧ c.toNat ≤ 90
      · rw [if_pos hu] at hlow
        have q1 : decide (65 ≤ c.toNat) = true := decide_eq_true hu.1
        have r1 : decide ((65 : Int) ≤ (c.toNat : Int)) = true := decide_eq_true (by omega)
        have q2 : decide (c.toNat ≤ 90) = true := decide_eq_true hu.2
        have r2 : decide ((c.toNat : Int) ≤ 90) = true := decide_eq_true (by omega)
        have hor := or32 ⟨c.toNat, hc8⟩ hu.1 hu.2
        have hval : bits BinOp.or IntKind.u8 (c.toNat : Int) 32 = ((Ma.low c).toNat : Int) := by rw [hlow]; exact hor
        clear hF hcl hcv hor hlow
        go_wp2_with fail
        go_roundw
        case rel => exact ⟨i + 1, by omega, by go_num, by rw [← hnx.out]; exact hset.out, HB.out.setCell (p := ⟨w.heap.size, i, none⟩) (Nat.le_refl _) _⟩
        case measure => simp [intOf]; omega
      · have hsm := Lib.hid (Ma.mid_same hcl hu)
        by_cases h65 : 65 ≤ c.toNat
        · have q1 : decide (65 ≤ c.toNat) = true := decide_eq_true h65
          have r1 : decide ((65 : Int) ≤ (c.toNat : Int)) = true := decide_eq_true (by omega)
          have q2 : decide (c.toNat ≤ 90) = false := decide_eq_false (by omega)
          have r2 : decide ((c.toNat : Int) ≤ 90) = false := decide_eq_false (by omega)
          clear hF hcl hcv hlow hu h65
          go_wp2
          go_roundw
          case rel => exact ⟨i + 1, by omega, by go_num, by rw [← hsm.out]; exact HF.out, HB.out⟩
          case measure => simp [intOf]; omega
        · have q1 : decide (65 ≤ c.toNat) = false := decide_eq_false h65
          have r1 : decide ((65 : Int) ≤ (c.toNat : Int)) = false := decide_eq_false (by omega)
          clear hF hcl hcv hlow hu h65
          go_wp2
          go_roundw
          case rel => exact ⟨i + 1, by omega, by go_num, by rw [← hsm.out]; exact HF.out, HB.out⟩
          case measure => simp [intOf]; omega
    · have hmid : Ma.mid l i = Ma.small l := by unfold Ma.mid; rw [List.take_of_length_le (by omega), List.drop_of_length_le (by omega), List.append_nil]
      have hlen : (Ma.small l).length = l.length := by unfold Ma.small; rw [List.length_map]
      have hbk := run_convert_bytes_back wr 22 9 5 ⟨w.heap.size, 0, none⟩ (grownCap w l.length 0 5) (Ma.small l) Try.underlying22 Try.underlying5 Try.underlying9 (fun j hj => by
        have h2 : (Ma.mid l i)[j]? = some (Ma.small l)[j] := by rw [hmid]; exact List.getElem?_eq_getElem hj
        have e : Addr.add ⟨w.heap.size, 0, none⟩ j = ⟨w.heap.size, j, none⟩ := by unfold Addr.add; split <;> simp_all
        rw [e]; exact hF.cell h2)
      rw [hlen] at hbk
      clear hF hcv
      go_wp2
      go_ret
      exact ⟨rfl, HB.out⟩
theorem small_any (l : List UInt8) (w : World) (hl : l.length ≤ 1000000000) :
    Calls Try.prog 35 #[.string (bs l)] w fun e w' => e = .returned (.string (bs (Ma.small l))) ∧ Below w.heap.size w w' := small_wide l w (by omega)
end Go.Proofs.Ytbjhnfemlpbchaa
