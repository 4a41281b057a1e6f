/- strings.IndexRune, IndexAny, ContainsAny: of any text, and ASCII signs. -/
import Derived.Test.YtbjhnfemlpbchaaShelf
import Derived.Test.YtbjhnfemlpbchaaStr
import Derived.Laws.Runes
import Derived.Laws.RangeAny
import Derived.Lib.IndexAny
import Derived.Lib.IndexBytes
import Derived.Lib.TrimUEq
import Derived.Lib.OthersKept
import Derived.Deep.LoopGhost
import Derived.Deep.QuietTactic
import Derived.BigQuiet
import Derived.Lib.Hide
import Derived.IntWalk
namespace Go.Proofs.Ytbjhnfemlpbchaa
open Go.RowKit

theorem calls_keep {P : Program} {f : FuncId} {args : Array Value} {w : World} {v : Value} (h : Calls P f args w fun e w' => e = .returned v ∧ w' = w) :
    Calls P f args w fun e w' => e = .returned v ∧ w = w' := h.mono fun _ _ ⟨h1, h2⟩ => ⟨h1, h2.symm⟩
def Ascii (l : List UInt8) : Prop := ∀ c ∈ l, c.toNat < 128
theorem indexByte_no {l : List UInt8} {c : UInt8} (h : ¬ l.contains c = true) : Lib.indexByte l c = -1 := by
  have h1 := Lib.contains_iff_indexByte l c
  have h2 : ¬ 0 ≤ Lib.indexByte l c := by
    intro h3
    rw [decide_eq_true h3] at h1
    exact h h1
  have h4 : -1 ≤ Lib.indexByte l c := by rw [← Lib.indexAny_one]; exact Lib.indexAny_ge _ _
  omega
theorem bs_index (l : List UInt8) (i : Nat) (c : UInt8) (h : l[i]? = some c) (k : IntKind) (n : Int) (hn : n = (i : Int)) (x : World) : (Instr.index 9 (.string (bs l)) (.int k n)).run Try.prog x = .ok (.int .u8 (c.toNat : Int)) x := by
  subst hn
  obtain ⟨h1, rfl⟩ := List.getElem?_eq_some_iff.1 h
  have hz := bs_size l
  rw [run_index_string x _ _ _ _ (by kernel_rfl), dif_pos (by omega : 0 ≤ (i : Int) ∧ (i : Int) < (bs l).size)]
  rfl

set_option maxHeartbeats 4000000 in
set_option maxRecDepth 100000 in
/-- A rune beyond ASCII in a row of ASCII signs. -/
theorem indexRune_bad (chars : List UInt8) (w : World) (_hn : chars.length ≤ 1000000) (ha : Ascii chars) :
    Calls Try.prog 59 #[.string (bs chars), .int .i32 65533] w fun e w' => e = .returned (.int .i64 (-1)) ∧ Below w.heap.size w w' := by
  have HA := Lib.hid ha
  have hsz := bs_size chars
  clear ha
  go_enter Try.func59, Try.ntmps59
  go_wp2_with fail
  go_loopg [5, 6] chars.length (fun g _ _ wx => ∃ i : Nat, i + g = chars.length ∧ wx = w.iter (bs chars) i)
  case atStart => exact ⟨0, by omega, rfl⟩
  case round =>
    obtain ⟨i, hig, rfl⟩ := hrel
    cases gk with
    | zero =>
      obtain rfl : i = chars.length := by omega
      have hnx := run_next_end (P := Try.prog) w (bs chars) chars.length
      go_wp2
      go_ret
      exact ⟨rfl, (Below.refl _ _).alloc (Nat.le_refl _) _⟩
    | succ g =>
      have hi : i < (bs chars).size := by omega
      have hx128 : ((bs chars)[i]'hi).toNat < 128 := by rw [bs_get]; exact HA.out _ (List.getElem_mem _)
      have hnx := fun ty => run_next_ascii (P := Try.prog) w (bs chars) i ty hi hx128
      generalize (bs chars)[i]'hi = x at *
      have hne : ((x.toNat : Int) == 65533) = false := by simp; omega
      go_wp2
      go_roundg g
      case measure => omega
      case rel => exact ⟨i + 1, by omega, rfl⟩

set_option maxHeartbeats 4000000 in
set_option maxRecDepth 100000 in
theorem indexRune_good (chars : List UInt8) (r : Int) (w : World) (_hn : chars.length ≤ 1000000) (ha : Ascii chars) (h0 : 128 ≤ r) (h1 : Utf8.valid r = true) (h2 : r ≠ 65533) :
    Calls Try.prog 59 #[.string (bs chars), .int .i32 r] w fun e w' => e = .returned (.int .i64 (-1)) ∧ Below w.heap.size w w' := by
  have HA := Lib.hid ha
  have hv := validRune_eq r
  rw [h1] at hv
  have hne : (r == 65533) = false := by simp; exact h2
  obtain ⟨e1, e2, e3⟩ := encode_facts r h1 h0
  have HE := Lib.hid e3
  have hv2 : Lib.validRune r = true := hv.symm
  have hb : r ≤ 1114111 := by
    simp [Lib.validRune] at hv2; omega
  have hsz := bs_size chars
  clear ha h1 h2 e3 hv
  go_enter Try.func59, Try.ntmps59
  go_wp2_with (go_at_call 63; refine (calls_keep (Try.utf8_ValidRune _ _)).mono ?_; rintro e w' ⟨rfl, rfl⟩)
  go_step3
  go_wp2_with fail
  generalize Utf8.encode r = E at *
  obtain ⟨m, hm⟩ : ∃ m : Nat, E.size = m + 1 := ⟨E.size - 1, by omega⟩
  obtain ⟨y, hy, hy1⟩ : ∃ y : UInt8, E.data.toList[m]? = some y ∧ 128 ≤ y.toNat := by
    have hz : E.size - 1 < E.size := by omega
    have := HE.out hz
    have hmz : m < E.size := by omega
    refine ⟨E[m]'hmz, Lib.data_getElem? E m hmz, ?_⟩
    simpa [hm] using this
  have iy : ∀ x : World, (Instr.index 9 (.string E) (.int .i64 (m : Int))).run Try.prog x = .ok (.int .u8 (y.toNat : Int)) x := fun x => by
    have := bs_index E.data.toList m y hy .i64 m rfl x
    exact this
  have em : (((E.size : Nat) : Int) - 1) = (m : Int) := by omega
  simp only [em]
  have m3 : m ≤ 3 := by omega
  clear HE hy em e1 e2
  refine wp_loop_rounds 1 ?_
  rw [rounds_succ]
  by_cases hlt : m < chars.length
  · obtain ⟨c, hc⟩ : ∃ c, chars[m]? = some c := ⟨_, List.getElem?_eq_getElem hlt⟩
    have ic := fun x => bs_index chars m c hc .i64 m rfl x
    have hc128 := HA.out c (List.mem_of_getElem? hc)
    have hno : Lib.indexByte (chars.drop (m + 1)) y = -1 := indexByte_no fun h => by
      rw [List.contains_iff_mem] at h
      have := HA.out y (List.mem_of_mem_drop h)
      omega
    have hnec : ((c.toNat : Int) != (y.toNat : Int)) = true := by simp; omega
    have NO := Lib.hid hno
    clear hc hno
    go_wp2_with fail
    go_step3
    go_wp2_with fail
    refine wp_region_grow (by kernel_rfl) (by kernel_rfl) ?_
    repeat (go_big_quiet_step (fail))
    refine wpQuiet_nil ?_
    intro g1
    obtain ⟨w1, hb1⟩ := g1
    have J2 := Lib.hid hb1
    dsimp only
    clear hb1
    go_wp2_with fail
    have q1 : IntKind.i64.wrap ((m : Int) + 1) = (m : Int) + 1 := IntWalk.i64_in _ (by omega)
    have q2 : (0 : Int) ≤ (m : Int) + 1 := by omega
    have q3 : ((m : Int) + 1).toNat = m + 1 := by omega
    have q4 : (m : Int) + 1 ≤ (chars.length : Nat) := by omega
    refine wp_region_grow (by kernel_rfl) (by kernel_rfl) ?_
    repeat (go_big_quiet_step ((go_at_call 47; exact Gr.same (calls_keep (Try.strings_IndexByte _ _ _)))))
    refine wpQuiet_nil ?_
    intro g1
    obtain ⟨w1, hb1⟩ := g1
    have J3 := Lib.hid (Below.after' J2.out hb1 (Nat.le_refl _))
    dsimp only
    clear hb1
    have e5 : Lib.indexByte ((bs chars).extract (m + 1) chars.length).data.toList ((y.toNat : Int)).toNat.toUInt8 = -1 := by
      rw [Lib.byte_back', bs_extract, bs_toList, ← NO.out, List.take_of_length_le (by simp)]
    simp only [e5]
    go_wp2_with fail
    rw [Exit.noGoto_ret]
    go_wp2_with fail
    rw [Exit.noGoto_ret]
    go_ret
    exact ⟨rfl, J3.out⟩
  · go_wp2_with fail
    rw [Exit.noGoto_ret]
    go_ret
    exact ⟨rfl, Below.refl _ _⟩
theorem indexRune_high (chars : List UInt8) (r : Int) (w : World) (hn : chars.length ≤ 1000000) (ha : Ascii chars) (h0 : 128 ≤ r) (h1 : Utf8.valid r = true) :
    Calls Try.prog 59 #[.string (bs chars), .int .i32 r] w fun e w' => e = .returned (.int .i64 (-1)) ∧ Below w.heap.size w w' := by
  by_cases h : r = 65533
  · subst h; exact indexRune_bad chars w hn ha
  · exact indexRune_good chars r w hn ha h0 h1 h

theorem decodeN_high (n b0 b1 b2 b3 : Nat) (h0 : 128 ≤ b0) (h1 : b0 < 256) : 128 ≤ (Lib.decodeN n b0 b1 b2 b3).1 ∧ ((Lib.decodeN n b0 b1 b2 b3).1 < 55296 ∨ (57344 ≤ (Lib.decodeN n b0 b1 b2 b3).1 ∧ (Lib.decodeN n b0 b1 b2 b3).1 ≤ 1114111)) ∧
    1 ≤ (Lib.decodeN n b0 b1 b2 b3).2 ∧ (Lib.decodeN n b0 b1 b2 b3).2 ≤ 4 ∧ (2 ≤ (Lib.decodeN n b0 b1 b2 b3).2 → 1 < n ∧ 128 ≤ b1) ∧ (3 ≤ (Lib.decodeN n b0 b1 b2 b3).2 → 2 < n ∧ 128 ≤ b2) ∧ (4 ≤ (Lib.decodeN n b0 b1 b2 b3).2 → 3 < n ∧ 128 ≤ b3) := by
  unfold Lib.decodeN
  repeat' split
  all_goals (simp only; omega)
theorem getD_of {l : List UInt8} {i : Nat} {b : UInt8} (h : l[i]? = some b) : l.getD i 0 = b := by simp [List.getD, h]
/-- What stands where no ASCII sign stands: a rune beyond ASCII; all its bytes are beyond ASCII. -/
theorem decode_beyond (l : List UInt8) (i : Nat) (x : UInt8) (h : l[i]? = some x) (hx : 128 ≤ x.toNat) :
    128 ≤ (Utf8.decode (bs l) i).1 ∧ Utf8.valid ((Utf8.decode (bs l) i).1 : Int) = true ∧ 1 ≤ (Utf8.decode (bs l) i).2 ∧ i + (Utf8.decode (bs l) i).2 ≤ l.length ∧
      ∀ j, i ≤ j → j < i + (Utf8.decode (bs l) i).2 → ∀ b, l[j]? = some b → 128 ≤ b.toNat := by
  have hil := (List.getElem?_eq_some_iff.1 h).1
  have e := Lib.decode_N (bs l) i
  rw [bs_toList, getD_of h] at e
  have H := decodeN_high (l.length - i) x.toNat (l.getD (i + 1) 0).toNat (l.getD (i + 2) 0).toNat (l.getD (i + 3) 0).toNat hx x.toNat_lt
  rw [← e] at H
  obtain ⟨h1, h2, h3, h4, h5, h6, h7⟩ := H
  generalize Utf8.decode (bs l) i = d at *
  refine ⟨h1, ?_, h3, ?_, ?_⟩
  · rw [validRune_eq]; simp only [validRune, decide_eq_true_eq]; omega
  · omega
  · intro j hj1 hj2 b hb
    obtain ⟨k, rfl⟩ : ∃ k, j = i + k := ⟨j - i, by omega⟩
    have hk : k < d.2 := by omega
    match k with
    | 0 => rw [Nat.add_zero, h] at hb; cases hb; exact hx
    | 1 => have := (h5 (by omega)).2; rw [getD_of hb] at this; exact this
    | 2 => have := (h6 (by omega)).2; rw [getD_of hb] at this; exact this
    | 3 => have := (h7 (by omega)).2; rw [getD_of hb] at this; exact this
    | k + 4 => omega
theorem noAny_beyond {l chars : List UInt8} (ha : Ascii chars) {i n : Nat} (h : Lib.NoAny l chars i) (hb : ∀ j, i ≤ j → j < i + n → ∀ b, l[j]? = some b → 128 ≤ b.toNat) : Lib.NoAny l chars (i + n) := by
  intro j b hj hjb
  by_cases hji : j < i
  · exact h j b hji hjb
  · have := hb j (by omega) hj b hjb
    rw [Bool.eq_false_iff]
    intro hc
    rw [List.contains_iff_mem] at hc
    have := ha b hc
    omega

set_option maxHeartbeats 8000000 in
set_option maxRecDepth 100000 in
theorem indexAny_short (l chars : List UInt8) (w : World) (h2 : 2 ≤ chars.length) (hn : chars.length ≤ 1000000) (h8 : l.length ≤ 8) (ha : Ascii chars) :
    Calls Try.prog 56 #[.string (bs l), .string (bs chars)] w fun e w' => e = .returned (.int .i64 (Lib.indexAny l chars)) ∧ Below w.heap.size w w' := by
  have HA := Lib.hid ha
  have hzl := bs_size l
  have hzc := bs_size chars
  have hemp : (bs chars).toList.isEmpty = false := by
    rw [bs_list]; cases chars with | nil => simp at h2 | cons _ _ => rfl
  have hn1 : ((chars.length : Int) == 1) = false := beq_eq_false_iff_ne.2 (by omega)
  have h8z : decide ((8 : Int) < (l.length : Int)) = false := decide_eq_false (by omega)
  clear ha
  go_enter Try.func56, Try.ntmps56
  go_wp2_with (go_at_call 60; refine (calls_keep (Try.strings_shouldUseASCIISet _ _)).mono ?_; rintro e w' ⟨rfl, rfl⟩; rw [h8z])
  go_loopg [9, 10] l.length (fun g _ _ wx => ∃ i : Nat, i ≤ l.length ∧ l.length ≤ i + g ∧ wx.heap[w.heap.size]? = some (.stringIter (bs l) i) ∧ Below w.heap.size w wx ∧ Lib.NoAny l chars i)
  case atStart => exact ⟨0, by omega, by omega, World.iter_heap _ _ _, (Below.refl _ _).alloc (Nat.le_refl _) _, Lib.NoAny.zero _ _⟩
  case round =>
    obtain ⟨i, hi1, hi2, hI, hB, hno⟩ := hrel
    have HN := Lib.hid hno
    have HB := Lib.hid hB
    have HI := Lib.hid hI
    clear hno hB hI
    by_cases hi : i < l.length
    · obtain ⟨g, rfl⟩ : ∃ g, gk = g + 1 := ⟨gk - 1, by omega⟩
      obtain ⟨x, hx⟩ : ∃ x, l[i]? = some x := ⟨_, List.getElem?_eq_getElem hi⟩
      have Hx := Lib.hid hx
      have hib : i < (bs l).size := by omega
      by_cases h128 : x.toNat < 128
      · have hgx : (bs l)[i]'hib = x := by rw [bs_get]; exact (List.getElem?_eq_some_iff.1 hx).2
        have hnx := fun ty => Lib.run_next_ascii_at (P := Try.prog) wr w.heap.size (bs l) i ty HI.out hib (by rw [hgx]; exact h128)
        rw [hgx] at hnx
        have HI2 := Lib.hid (Lib.iterAt_heap wr w.heap.size (bs l) i (i + 1) HI.out)
        have HB2 := Lib.hid (Lib.below_iterAt HB.out (Nat.le_refl _) (bs l) (i + 1))
        have hcon := Lib.contains_iff_indexByte chars x
        clear hx hgx
        cases hin : chars.contains x
        · rw [hin] at hcon
          have hlt : ¬ ((0 : Int) ≤ Lib.indexByte chars x) := of_decide_eq_false hcon.symm
          have Hin := Lib.hid hin
          clear hcon hin
          go_wp2_with (go_at_call 59; refine (calls_keep (Try.strings_IndexRune_ascii _ _ _ (by omega) (by omega))).mono ?_; rintro e w' ⟨rfl, rfl⟩; rw [Lib.byte_back', bs_toList])
          go_roundg g
          case measure => omega
          case rel => exact ⟨i + 1, by omega, by omega, HI2.out, HB2.out, HN.out.succ Hx.out Hin.out⟩
        · rw [hin] at hcon
          have hge : (0 : Int) ≤ Lib.indexByte chars x := of_decide_eq_true hcon.symm
          have Hin := Lib.hid hin
          clear hcon hin
          go_wp2_with (go_at_call 59; refine (calls_keep (Try.strings_IndexRune_ascii _ _ _ (by omega) (by omega))).mono ?_; rintro e w' ⟨rfl, rfl⟩; rw [Lib.byte_back', bs_toList])
          go_ret
          exact ⟨by rw [Lib.indexAny_hit HN.out Hx.out Hin.out]; rfl, HB2.out⟩
      · obtain ⟨d1, d2, d3, d4, d5⟩ := decode_beyond l i x hx (by omega)
        have hnx := fun ty => Lib.run_next_any_at (P := Try.prog) wr w.heap.size (bs l) i ty HI.out hib
        generalize Utf8.decode (bs l) i = d at *
        obtain ⟨r, n⟩ := d
        dsimp only at d1 d2 d3 d4 d5 hnx
        have HN2 := Lib.hid (noAny_beyond HA.out HN.out d5)
        have HI2 := Lib.hid (Lib.iterAt_heap wr w.heap.size (bs l) i (i + n) HI.out)
        have HB2 := Lib.hid (Lib.below_iterAt HB.out (Nat.le_refl _) (bs l) (i + n))
        have hzz : (wr.iterAt w.heap.size (bs l) (i + n)).heap.size = wr.heap.size := Lib.iterAt_size _ _ _ _
        have hR := Lib.hid (indexRune_high chars r (wr.iterAt w.heap.size (bs l) (i + n)) hn HA.out (by omega) d2)
        have hwz := HB2.out.size
        have hlt2 : w.heap.size < (wr.iterAt w.heap.size (bs l) (i + n)).heap.size := (Array.getElem?_eq_some_iff.1 HI2.out).1
        clear hx d2 d5 hzz
        go_wp2_with fail
        refine hR.out.mono ?_
        rintro e w' ⟨rfl, hb⟩
        have hB3 := Lib.hid (Below.after' HB2.out hb (Nat.le_refl _))
        have hI3 := Lib.hid ((hb.block _ hlt2).trans HI2.out)
        clear hb
        go_wp2_with fail
        go_roundg g
        case measure => omega
        case rel => exact ⟨i + n, by omega, by omega, hI3.out, hB3.out, HN2.out⟩
    · obtain rfl : i = l.length := by omega
      have hnx := fun ty => Lib.run_next_end_at (P := Try.prog) wr w.heap.size (bs l) l.length ty HI.out (by omega)
      go_wp2
      go_ret
      exact ⟨by rw [Lib.indexAny_none HN.out]; rfl, HB.out⟩

theorem anys_ascii {l : List UInt8} (h : Ascii l) (j : Nat) (b : UInt8) (hb : (bs l).data.toList[j]? = some b) : b.toNat < 128 := h b (List.mem_of_getElem? hb)
theorem anys_zero : ∀ w : World, (zeroValue 96).run Try.prog w = .ok (.agg (Array.replicate 256 (.bool false))) w := (zero_of_info (n := 256) (by kernel_rfl)).1
theorem indexAny_any (l chars : List UInt8) (w : World) (hl : l.length ≤ 1000000000) (h2 : 2 ≤ chars.length) (hn : chars.length ≤ 1000000) (ha : Ascii chars) :
    Calls Try.prog 56 #[.string (bs l), .string (bs chars)] w fun e w' => e = .returned (.int .i64 (Lib.indexAny l chars)) ∧ Below w.heap.size w w' := by
  by_cases h8 : l.length ≤ 8
  · exact indexAny_short l chars w h2 hn h8 ha
  · have hzl := bs_size l
    have hzc := bs_size chars
    refine (Try.strings_IndexAny_long anys_zero (bs l) (bs chars) w (by omega) (by omega) (by omega) (by omega) (anys_ascii ha)).mono fun e w' ⟨he, hw⟩ => ⟨he, ?_⟩
    rw [hw]
    exact ((Below.refl _ _).alloc (Nat.le_refl _) _).alloc (by simp) _
theorem indexAny_iff (chars : List UInt8) : ∀ l : List UInt8, decide (0 ≤ Lib.indexAny l chars) = l.any fun b => chars.contains b
  | [] => rfl
  | b :: l => by
    have ih := indexAny_iff chars l
    have hg := Lib.indexAny_ge chars l
    rw [List.any_cons, ← ih]
    have eu : Lib.indexAny (b :: l) chars = if chars.contains b then 0 else if Lib.indexAny l chars == -1 then -1 else Lib.indexAny l chars + 1 := rfl
    rw [eu]
    cases chars.contains b with
    | true => simp
    | false =>
      simp only [Bool.false_eq_true, if_false, Bool.false_or, beq_iff_eq]
      by_cases h : Lib.indexAny l chars = -1
      · rw [if_pos h]; simp [h]
      · rw [if_neg h]
        have h1 : 0 ≤ Lib.indexAny l chars := by omega
        rw [decide_eq_true h1, decide_eq_true (by omega)]

set_option maxHeartbeats 1000000 in
theorem containsAny_any (l chars : List UInt8) (w : World) (hl : l.length ≤ 1000000000) (h2 : 2 ≤ chars.length) (hn : chars.length ≤ 1000000) (ha : Ascii chars) :
    Calls Try.prog 50 #[.string (bs l), .string (bs chars)] w fun e w' => e = .returned (.bool (l.any fun b => chars.contains b)) ∧ Below w.heap.size w w' := by
  have H := Lib.hid (indexAny_any l chars w hl h2 hn ha)
  have E := Lib.hid (indexAny_iff chars l)
  clear ha
  go_enter Try.func50, Try.ntmps50
  go_wp2_with fail
  refine H.out.mono ?_
  rintro e w1 ⟨rfl, hb⟩
  go_wp2
  go_ret
  exact ⟨ret_bool E.out, hb⟩
end Go.Proofs.Ytbjhnfemlpbchaa
