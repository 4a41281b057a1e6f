/- The walks of layer 35: a text, shown. -/
import Derived.Test.YtmidabbfjciogaaDoorWalksA
namespace Go.Proofs.YtmidabbfjciogaaDoor
open Go.RowKit

/-- A digit of sixteen. -/
def Li.hexd (n : Nat) : UInt8 := if n < 10 then UInt8.ofNat (48 + n) else UInt8.ofNat (55 + n)
def Li.odd (c : UInt8) : Bool := decide (c.toNat < 33) || decide (126 < c.toNat) || decide (c.toNat = 37)
def Li.show1 (c : UInt8) : List UInt8 := if Li.odd c then [37, Li.hexd (c.toNat / 16), Li.hexd (c.toNat % 16)] else [c]
/-- A text, shown. -/
def Li.text (l : List UInt8) : List UInt8 := l.flatMap Li.show1
theorem Li.text_snoc (l : List UInt8) (c : UInt8) : Li.text (l ++ [c]) = Li.text l ++ Li.show1 c := by simp [Li.text]
theorem Li.text_len (l : List UInt8) : (Li.text l).length ≤ 3 * l.length := by
  induction l with
  | nil => simp [Li.text]
  | cons c l ih =>
    have h : (Li.show1 c).length ≤ 3 := by unfold Li.show1; split <;> simp
    simp only [Li.text, List.flatMap_cons, List.length_append, List.length_cons] at ih ⊢
    omega
def dig : ByteArray := ⟨#[48, 49, 50, 51, 52, 53, 54, 55, 56, 57, 65, 66, 67, 68, 69, 70]⟩
theorem dig_at : ∀ n : Fin 16, (dig.data[n.val]'n.isLt).toNat = (Li.hexd n.val).toNat := by decide
theorem index_dig (n : Nat) (h : n < 16) (k : IntKind) (x : World) : (Instr.index 9 (.string ⟨#[48, 49, 50, 51, 52, 53, 54, 55, 56, 57, 65, 66, 67, 68, 69, 70]⟩) (.int k (n : Int))).run Tryd.prog x = .ok (.int .u8 ((Li.hexd n).toNat : Int)) x := by
  rw [run_index_string x _ _ _ _ (by kernel_rfl), dif_pos ⟨by omega, by show (n : Int) < 16; omega⟩]
  have := dig_at ⟨n, h⟩
  simp only [dig] at this
  simp only [Int.toNat_natCast, ← this]
  rfl

/-- The row of a text's bytes. -/
theorem bytes_of (l : List UInt8) (w : World) : ∃ (w2 : World) (cap : Nat) (C : Array Value) (fr : Nat × Nat), (convert 9 64 (.string (bs l))).run Tryd.prog w = .ok (.slice (some ⟨w.heap.size, 0, none⟩) l.length cap) w2 ∧ Below w.heap.size w w2 ∧
    w.heap.size < w2.heap.size ∧ w2.heap[w.heap.size]? = some (.cells C 5 fr) ∧ ∀ (j : Nat) c, l[j]? = some c → C[j]? = some (.int .u8 (c.toNat : Int)) := by
  have h := run_bytes_of_string w 9 64 5 (bs l) Tryd.underlying9 Tryd.underlying64 Tryd.underlying5
  rw [bs_size] at h
  refine ⟨_, _, _, _, h, ?_, ?_, heap_alloc_new _ _, ?_⟩
  · exact ((Below.refl w.heap.size w).drew).alloc (Nat.le_refl _) _
  · rw [World.size_alloc]; exact Nat.lt_succ_self _
  · intro j c hc
    obtain ⟨hj, hc⟩ := List.getElem?_eq_some_iff.1 hc
    have hj' : j < (bs l).data.size := by show j < l.toArray.size; simpa using hj
    have e := bytesRow_at (bs l) (grownCap w l.length 0 5) j hj'
    have this : (bs l).data[j]'hj' = c := by rw [← hc]; exact List.getElem_toArray ..
    rw [this] at e
    exact e

theorem own_next {n m : Nat} {o o1 o2 : Option Nat} (hnm : n ≤ m) (h1 : o1 = o ∨ ∃ g, n ≤ g ∧ o1 = some g) (h2 : o2 = o1 ∨ ∃ g, m ≤ g ∧ o2 = some g) : o2 = o ∨ ∃ g, n ≤ g ∧ o2 = some g := by
  rcases h2 with h2 | ⟨g, hg, h2⟩
  · rw [h2]; exact h1
  · exact .inr ⟨g, Nat.le_trans hnm hg, h2⟩
theorem dig_get (n : Nat) (h : n < 16) : (⟨#[48, 49, 50, 51, 52, 53, 54, 55, 56, 57, 65, 66, 67, 68, 69, 70]⟩ : ByteArray)[n]'h = Li.hexd n :=
  UInt8.toNat_inj.1 (dig_at ⟨n, h⟩)
theorem isBuilder {w : World} {b base : Nat} {p v : Value} {l : List UInt8} (h : Bld w b base p v l) (hb : base ≤ b) : Lib.IsBuilder 66 5 base b (Lib.byteCells l) w := by
  obtain ⟨h1, h2, h3⟩ := h
  have hne : v.ownBlock ≠ some b := fun e => own_ne h3 h1 (by decide) e.symm
  have hl : (Lib.byteCells l).length = l.length := List.length_map ..
  have h4 : w.ownsRow base 5 1 v (Lib.byteCells l).length (Lib.byteCells l) := by rw [hl]; exact h3
  rcases h2 with rfl | rfl
  · exact .inl ⟨hb, v, h1, h4, hne⟩
  · exact .inr ⟨hb, v, h1, h4, hne⟩
/-- One sign on: what the loop keeps. -/
theorem text_next {l : List UInt8} {i : Nat} {c : UInt8} {C : Array Value} {fr : Nat × Nat} {w wr w' : World} {p v v' : Value} (hi : i < l.length) (hsn : l.take (i + 1) = l.take i ++ [c])
    (hb : Bld wr w.heap.size w.heap.size p v (Li.text (l.take i))) (hb' : Bld w' w.heap.size w.heap.size (.pointer (some ⟨w.heap.size, 0, none⟩)) v' (Li.text (l.take i) ++ Li.show1 c))
    (ho : v'.ownBlock = v.ownBlock ∨ ∃ g, wr.heap.size ≤ g ∧ v'.ownBlock = some g) (hk : Kept2 wr w' w.heap.size v.ownBlock) (hvr : v.ownBlock ≠ some (w.heap.size + 1))
    (hrow : wr.heap[w.heap.size + 1]? = some (.cells C 5 fr)) (hB : Below w.heap.size w wr) :
    ∃ j : Nat, j ≤ l.length ∧ Value.int .i64 ((i : Int) + 1) = .int .i64 j ∧ ∃ p v, Bld w' w.heap.size w.heap.size p v (Li.text (l.take j)) ∧ v.ownBlock ≠ some (w.heap.size + 1) ∧ w'.heap[w.heap.size + 1]? = some (.cells C 5 fr) ∧ Below w.heap.size w w' := by
  have hlt : w.heap.size + 1 < wr.heap.size := (Array.getElem?_eq_some_iff.1 hrow).1
  refine ⟨i + 1, hi, rfl, .pointer (some ⟨w.heap.size, 0, none⟩), v', ?_, ?_, ?_, ?_⟩
  · rw [hsn, Li.text_snoc]; exact hb'
  · rcases ho with e | ⟨g, hg, e⟩
    · rw [e]; exact hvr
    · rw [e]; intro h; cases h; omega
  · rw [hk.block _ hlt (by omega) (fun e => hvr e.symm)]; exact hrow
  · exact hB.trans (hk.below (Nat.le_refl _) (by omega) (fun k e => (hb.2.2.lt k e).1))

set_option maxHeartbeats 4000000 in
set_option maxRecDepth 100000 in
theorem text_any (l : List UInt8) (w : World) (hl : l.length ≤ 100000000) :
    Calls Tryd.prog 10 #[.string (bs l)] w fun e w' => e = .returned (.string (bs (Li.text l))) ∧ Below w.heap.size w w' := by
  have hsz := bs_size l
  obtain ⟨w2, cap, C, fr, hconv, hb2, hz2, hrow2, hC⟩ := bytes_of l (w.alloc (.cells #[.pointer none, .slice none 0 0] 66))
  rw [World.size_alloc] at hconv hb2 hz2 hrow2
  have hb2' := Lib.hid hb2
  have hrow2' := Lib.hid hrow2
  have hC' := Lib.hid hC
  clear hb2 hrow2 hC
  go_enter Tryd.func10, Tryd.ntmps10
  go_wp2_with fail
  go_loopw [9] (fun u wr => ∃ i : Nat, i ≤ l.length ∧ u = .int .i64 i ∧ ∃ p v, Bld wr w.heap.size w.heap.size p v (Li.text (l.take i)) ∧ v.ownBlock ≠ some (w.heap.size + 1) ∧ wr.heap[w.heap.size + 1]? = some (.cells C 5 fr) ∧ Below w.heap.size w wr) (fun u _ => l.length - (intOf u).toNat)
  case atStart =>
    refine ⟨0, Nat.zero_le _, rfl, _, _, ⟨?_, .inl rfl, BRow.nil _ _ _⟩, by simp [Value.ownBlock], hrow2'.out, ?_⟩
    · rw [hb2'.out.block _ (Nat.lt_succ_self _)]; exact heap_alloc_new _ _
    · exact Below.after' ((Below.refl _ w).alloc (Nat.le_refl _) _) (hb2'.out.mono (by simp)) (by simp)
  case round =>
    obtain ⟨i, hi, rfl, p, v, hbld, hvr, hrow, hB⟩ := hrel
    by_cases h1 : i < l.length
    · have hget := List.getElem?_eq_getElem h1
      have hcell : wr.cell? ⟨w.heap.size + 1, i, none⟩ = some (.int .u8 (l[i].toNat : Int)) := (cell_of_row wr _ i _ _ _ hrow).trans (hC'.out i _ hget)
      have hlt : w.heap.size + 1 < wr.heap.size := (Array.getElem?_eq_some_iff.1 hrow).1
      have hsn := Lib.hid (List.take_succ_eq_append_getElem h1)
      generalize l[i] = c at *
      have hW := Lib.hid hbld
      have hrow' := Lib.hid hrow
      have hB' := Lib.hid hB
      clear hbld hrow hB hget
      have hc256 := c.toNat_lt
      have htl : (Li.text (l.take i)).length ≤ 300000000 := by have h2 := Li.text_len (l.take i); have h3 := List.length_take_le i l; have h4 := List.length_take_le' i l; omega
      by_cases ho : Li.odd c = true
      · have hcs : (c.toNat : Int) < 33 ∨ (¬ (c.toNat : Int) < 33 ∧ (126 : Int) < c.toNat) ∨ (¬ (c.toNat : Int) < 33 ∧ ¬ (126 : Int) < c.toNat ∧ ((c.toNat : Int) == 37) = true) := by
          simp [Li.odd] at ho; simp; omega
        have hsh := Lib.hid (show Li.show1 c = [37, Li.hexd (c.toNat / 16), Li.hexd (c.toNat % 16)] by unfold Li.show1; rw [if_pos ho])
        clear ho
        rcases hcs with k1 | ⟨k1, k2⟩ | ⟨k1, k2, k3⟩
        all_goals
          go_wp2_with fail
          refine (writeByte_any _ _ p v _ 37 wr hW.out (by omega) (by omega)).mono ?_
          rintro e w3 ⟨v3, rfl, hb3, ho3, hk3⟩
          have hB3 := Lib.hid hb3
          have hO3 := Lib.hid ho3
          have hK3 := Lib.hid hk3
          clear hb3 ho3 hk3
          go_wp2_with fail
          refine (writeByte_any _ _ _ v3 _ _ w3 hB3.out (by have := hK3.out.size; omega) (by simp; omega)).mono ?_
          rintro e w4 ⟨v4, rfl, hb4, ho4, hk4⟩
          have hB4 := Lib.hid hb4
          have hO4 := Lib.hid ho4
          have hK4 := Lib.hid hk4
          clear hb4 ho4 hk4
          go_wp2_with fail
          refine (writeByte_any _ _ _ v4 _ _ w4 hB4.out (by have := hK3.out.size; have := hK4.out.size; omega) (by simp; omega)).mono ?_
          rintro e w5 ⟨v5, rfl, hb5, ho5, hk5⟩
          have hB5 := Lib.hid hb5
          have hO5 := Lib.hid ho5
          have hK5 := Lib.hid hk5
          clear hb5 ho5 hk5
          go_wp2_with fail
          refine ⟨text_next h1 hsn.out hW.out (v' := v5) ?_ (own_next (Nat.le_trans hK3.out.size hK4.out.size) (own_next hK3.out.size hO3.out hO4.out) hO5.out) ((hK3.out.trans hK4.out hO3.out).trans hK5.out (own_next hK3.out.size hO3.out hO4.out)) hvr hrow'.out hB'.out, ?_⟩
          · have := hB5.out
            rw [hsh.out]
            rw [dig_get, dig_get, List.append_assoc, List.append_assoc] at this
            exact this
          · show l.length - ((i : Int) + 1).toNat < l.length - (i : Int).toNat
            omega
      · have hcs : ¬ (c.toNat : Int) < 33 ∧ ¬ (126 : Int) < c.toNat ∧ ((c.toNat : Int) == 37) = false := by
          simp [Li.odd] at ho; simp; omega
        obtain ⟨k1, k2, k3⟩ := hcs
        have hsh := Lib.hid (show Li.show1 c = [c] by unfold Li.show1; rw [if_neg ho])
        clear ho
        go_wp2_with fail
        refine (writeByte_any _ _ p v _ c wr hW.out (by omega) (by omega)).mono ?_
        rintro e w3 ⟨v3, rfl, hb3, ho3, hk3⟩
        have hB3 := Lib.hid hb3
        have hO3 := Lib.hid ho3
        have hK3 := Lib.hid hk3
        clear hb3 ho3 hk3
        go_wp2_with fail
        refine ⟨text_next h1 hsn.out hW.out (v' := v3) ?_ hO3.out hK3.out hvr hrow'.out hB'.out, ?_⟩
        · rw [hsh.out]; exact hB3.out
        · show l.length - ((i : Int) + 1).toNat < l.length - (i : Int).toNat
          omega
    · have hfin : l.take i = l := List.take_of_length_le (by omega)
      rw [hfin] at hbld
      have hW := Lib.hid (isBuilder hbld (Nat.le_refl _))
      have hB' := Lib.hid hB
      clear hbld hrow hB
      go_wp2_with fail
      refine (Tryd.Builder_String_any _ _ _ wr hW.out hB'.out.size).mono ?_
      rintro e w3 ⟨rfl, hb3⟩
      go_wp2
      go_ret
      exact ⟨rfl, hB'.out.trans hb3⟩
end Go.Proofs.YtmidabbfjciogaaDoor
