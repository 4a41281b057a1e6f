/- Joined texts: Anys, Utf, UtfUnits, WalksA, WalksB, WalksC, WalksD, ChkB, PvPlain. -/
import Derived.Test.YtibogpidnnodnaaGreatDoorPk3
import Derived.Test.YtibogpidnnodnaaGreatDoorPk1
import Derived.Laws.Runes
import Derived.Laws.RangeAny
import Derived.Lib.IndexAny
import Derived.Lib.IndexBytes
import Derived.Lib.TrimUEq
import Derived.Lib.OthersKept
import Derived.Deep.LoopGhost
import Derived.Deep.QuietTactic
import Derived.BigQuiet
import Derived.Lib.Hide
import Derived.IntWalk
import Derived.Test.YtibogpidnnodnaaGreatDoorPk2
import Derived.Lib.SlicesCompact
/- strings.IndexRune, IndexAny, ContainsAny: of any text, and ASCII signs. -/
namespace Go.Proofs.YtibogpidnnodnaaGreatDoor
open Go.RowKit

theorem calls_keep {P : Program} {f : FuncId} {args : Array Value} {w : World} {v : Value} (h : Calls P f args w fun e w' => e = .returned v ∧ w' = w) :
    Calls P f args w fun e w' => e = .returned v ∧ w = w' := h.mono fun _ _ ⟨h1, h2⟩ => ⟨h1, h2.symm⟩
def Ascii (l : List UInt8) : Prop := ∀ c ∈ l, c.toNat < 128
theorem indexByte_no {l : List UInt8} {c : UInt8} (h : ¬ l.contains c = true) : Lib.indexByte l c = -1 := by
  have h1 := Lib.contains_iff_indexByte l c
  have h2 : ¬ 0 ≤ Lib.indexByte l c := by
    intro h3
    rw [decide_eq_true h3] at h1
    exact h h1
  have h4 : -1 ≤ Lib.indexByte l c := by rw [← Lib.indexAny_one]; exact Lib.indexAny_ge _ _
  omega
theorem bs_index (l : List UInt8) (i : Nat) (c : UInt8) (h : l[i]? = some c) (k : IntKind) (n : Int) (hn : n = (i : Int)) (x : World) : (Instr.index 9 (.string (bs l)) (.int k n)).run Tryz.prog x = .ok (.int .u8 (c.toNat : Int)) x := by
  subst hn
  obtain ⟨h1, rfl⟩ := List.getElem?_eq_some_iff.1 h
  have hz := bs_size l
  rw [run_index_string x _ _ _ _ (by kernel_rfl), dif_pos (by omega : 0 ≤ (i : Int) ∧ (i : Int) < (bs l).size)]
  rfl

set_option maxHeartbeats 4000000 in
set_option maxRecDepth 100000 in
/-- A rune beyond ASCII in a row of ASCII signs. -/
theorem indexRune_bad (chars : List UInt8) (w : World) (_hn : chars.length ≤ 1000000) (ha : Ascii chars) :
    Calls Tryz.prog 134 #[.string (bs chars), .int .i32 65533] w fun e w' => e = .returned (.int .i64 (-1)) ∧ Below w.heap.size w w' := by
  have HA := Lib.hid ha
  have hsz := bs_size chars
  clear ha
  go_enter Tryz.func134, Tryz.ntmps134
  go_wp2_with fail
  go_loopg [5, 6] chars.length (fun g _ _ wx => ∃ i : Nat, i + g = chars.length ∧ wx = w.iter (bs chars) i)
  case atStart => exact ⟨0, by omega, rfl⟩
  case round =>
    obtain ⟨i, hig, rfl⟩ := hrel
    cases gk with
    | zero =>
      obtain rfl : i = chars.length := by omega
      have hnx := run_next_end (P := Tryz.prog) w (bs chars) chars.length
      go_wp2
      go_ret
      exact ⟨rfl, (Below.refl _ _).alloc (Nat.le_refl _) _⟩
    | succ g =>
      have hi : i < (bs chars).size := by omega
      have hx128 : ((bs chars)[i]'hi).toNat < 128 := by rw [bs_get]; exact HA.out _ (List.getElem_mem _)
      have hnx := fun ty => run_next_ascii (P := Tryz.prog) w (bs chars) i ty hi hx128
      generalize (bs chars)[i]'hi = x at *
      have hne : ((x.toNat : Int) == 65533) = false := by simp; omega
      go_wp2
      go_roundg g
      case measure => omega
      case rel => exact ⟨i + 1, by omega, rfl⟩

set_option maxHeartbeats 4000000 in
set_option maxRecDepth 100000 in
theorem indexRune_good (chars : List UInt8) (r : Int) (w : World) (_hn : chars.length ≤ 1000000) (ha : Ascii chars) (h0 : 128 ≤ r) (h1 : Utf8.valid r = true) (h2 : r ≠ 65533) :
    Calls Tryz.prog 134 #[.string (bs chars), .int .i32 r] w fun e w' => e = .returned (.int .i64 (-1)) ∧ Below w.heap.size w w' := by
  have HA := Lib.hid ha
  have hv := validRune_eq r
  rw [h1] at hv
  have hne : (r == 65533) = false := by simp; exact h2
  obtain ⟨e1, e2, e3⟩ := encode_facts r h1 h0
  have HE := Lib.hid e3
  have hv2 : Lib.validRune r = true := hv.symm
  have hb : r ≤ 1114111 := by
    simp [Lib.validRune] at hv2; omega
  have hsz := bs_size chars
  clear ha h1 h2 e3 hv
  go_enter Tryz.func134, Tryz.ntmps134
  go_wp2_with (go_at_call 154; refine (calls_keep (Tryz.utf8_ValidRune _ _)).mono ?_; rintro e w' ⟨rfl, rfl⟩)
  go_step3
  go_wp2_with fail
  generalize Utf8.encode r = E at *
  obtain ⟨m, hm⟩ : ∃ m : Nat, E.size = m + 1 := ⟨E.size - 1, by omega⟩
  obtain ⟨y, hy, hy1⟩ : ∃ y : UInt8, E.data.toList[m]? = some y ∧ 128 ≤ y.toNat := by
    have hz : E.size - 1 < E.size := by omega
    have := HE.out hz
    have hmz : m < E.size := by omega
    refine ⟨E[m]'hmz, Lib.data_getElem? E m hmz, ?_⟩
    simpa [hm] using this
  have iy : ∀ x : World, (Instr.index 9 (.string E) (.int .i64 (m : Int))).run Tryz.prog x = .ok (.int .u8 (y.toNat : Int)) x := fun x => by
    have := bs_index E.data.toList m y hy .i64 m rfl x
    exact this
  have em : (((E.size : Nat) : Int) - 1) = (m : Int) := by omega
  simp only [em]
  have m3 : m ≤ 3 := by omega
  clear HE hy em e1 e2
  refine wp_loop_rounds 1 ?_
  rw [rounds_succ]
  by_cases hlt : m < chars.length
  · obtain ⟨c, hc⟩ : ∃ c, chars[m]? = some c := ⟨_, List.getElem?_eq_getElem hlt⟩
    have ic := fun x => bs_index chars m c hc .i64 m rfl x
    have hc128 := HA.out c (List.mem_of_getElem? hc)
    have hno : Lib.indexByte (chars.drop (m + 1)) y = -1 := indexByte_no fun h => by
      rw [List.contains_iff_mem] at h
      have := HA.out y (List.mem_of_mem_drop h)
      omega
    have hnec : ((c.toNat : Int) != (y.toNat : Int)) = true := by simp; omega
    have NO := Lib.hid hno
    clear hc hno
    go_wp2_with fail
    go_step3
    go_wp2_with fail
    refine wp_region_grow (by kernel_rfl) (by kernel_rfl) ?_
    repeat (go_big_quiet_step (fail))
    refine wpQuiet_nil ?_
    intro g1
    obtain ⟨w1, hb1⟩ := g1
    have J2 := Lib.hid hb1
    dsimp only
    clear hb1
    go_wp2_with fail
    have q1 : IntKind.i64.wrap ((m : Int) + 1) = (m : Int) + 1 := IntWalk.i64_in _ (by omega)
    have q2 : (0 : Int) ≤ (m : Int) + 1 := by omega
    have q3 : ((m : Int) + 1).toNat = m + 1 := by omega
    have q4 : (m : Int) + 1 ≤ (chars.length : Nat) := by omega
    refine wp_region_grow (by kernel_rfl) (by kernel_rfl) ?_
    repeat (go_big_quiet_step ((go_at_call 129; exact Gr.same (calls_keep (Tryz.strings_IndexByte _ _ _)))))
    refine wpQuiet_nil ?_
    intro g1
    obtain ⟨w1, hb1⟩ := g1
    have J3 := Lib.hid (Below.after' J2.out hb1 (Nat.le_refl _))
    dsimp only
    clear hb1
    have e5 : Lib.indexByte ((bs chars).extract (m + 1) chars.length).data.toList ((y.toNat : Int)).toNat.toUInt8 = -1 := by
      rw [Lib.byte_back', bs_extract, bs_toList, ← NO.out, List.take_of_length_le (by simp)]
    simp only [e5]
    go_wp2_with fail
    rw [Exit.noGoto_ret]
    go_wp2_with fail
    rw [Exit.noGoto_ret]
    go_ret
    exact ⟨rfl, J3.out⟩
  · go_wp2_with fail
    rw [Exit.noGoto_ret]
    go_ret
    exact ⟨rfl, Below.refl _ _⟩
theorem indexRune_high (chars : List UInt8) (r : Int) (w : World) (hn : chars.length ≤ 1000000) (ha : Ascii chars) (h0 : 128 ≤ r) (h1 : Utf8.valid r = true) :
    Calls Tryz.prog 134 #[.string (bs chars), .int .i32 r] w fun e w' => e = .returned (.int .i64 (-1)) ∧ Below w.heap.size w w' := by
  by_cases h : r = 65533
  · subst h; exact indexRune_bad chars w hn ha
  · exact indexRune_good chars r w hn ha h0 h1 h

theorem decodeN_high (n b0 b1 b2 b3 : Nat) (h0 : 128 ≤ b0) (h1 : b0 < 256) : 128 ≤ (Lib.decodeN n b0 b1 b2 b3).1 ∧ ((Lib.decodeN n b0 b1 b2 b3).1 < 55296 ∨ (57344 ≤ (Lib.decodeN n b0 b1 b2 b3).1 ∧ (Lib.decodeN n b0 b1 b2 b3).1 ≤ 1114111)) ∧
    1 ≤ (Lib.decodeN n b0 b1 b2 b3).2 ∧ (Lib.decodeN n b0 b1 b2 b3).2 ≤ 4 ∧ (2 ≤ (Lib.decodeN n b0 b1 b2 b3).2 → 1 < n ∧ 128 ≤ b1) ∧ (3 ≤ (Lib.decodeN n b0 b1 b2 b3).2 → 2 < n ∧ 128 ≤ b2) ∧ (4 ≤ (Lib.decodeN n b0 b1 b2 b3).2 → 3 < n ∧ 128 ≤ b3) := by
  unfold Lib.decodeN
  repeat' split
  all_goals (simp only; omega)
theorem getD_of {l : List UInt8} {i : Nat} {b : UInt8} (h : l[i]? = some b) : l.getD i 0 = b := by simp [List.getD, h]
/-- What stands where no ASCII sign stands: a rune beyond ASCII; all its bytes are beyond ASCII. -/
theorem decode_beyond (l : List UInt8) (i : Nat) (x : UInt8) (h : l[i]? = some x) (hx : 128 ≤ x.toNat) :
    128 ≤ (Utf8.decode (bs l) i).1 ∧ Utf8.valid ((Utf8.decode (bs l) i).1 : Int) = true ∧ 1 ≤ (Utf8.decode (bs l) i).2 ∧ i + (Utf8.decode (bs l) i).2 ≤ l.length ∧
      ∀ j, i ≤ j → j < i + (Utf8.decode (bs l) i).2 → ∀ b, l[j]? = some b → 128 ≤ b.toNat := by
  have hil := (List.getElem?_eq_some_iff.1 h).1
  have e := Lib.decode_N (bs l) i
  rw [bs_toList, getD_of h] at e
  have H := decodeN_high (l.length - i) x.toNat (l.getD (i + 1) 0).toNat (l.getD (i + 2) 0).toNat (l.getD (i + 3) 0).toNat hx x.toNat_lt
  rw [← e] at H
  obtain ⟨h1, h2, h3, h4, h5, h6, h7⟩ := H
  generalize Utf8.decode (bs l) i = d at *
  refine ⟨h1, ?_, h3, ?_, ?_⟩
  · rw [validRune_eq]; simp only [validRune, decide_eq_true_eq]; omega
  · omega
  · intro j hj1 hj2 b hb
    obtain ⟨k, rfl⟩ : ∃ k, j = i + k := ⟨j - i, by omega⟩
    have hk : k < d.2 := by omega
    match k with
    | 0 => rw [Nat.add_zero, h] at hb; cases hb; exact hx
    | 1 => have := (h5 (by omega)).2; rw [getD_of hb] at this; exact this
    | 2 => have := (h6 (by omega)).2; rw [getD_of hb] at this; exact this
    | 3 => have := (h7 (by omega)).2; rw [getD_of hb] at this; exact this
    | k + 4 => omega
theorem noAny_beyond {l chars : List UInt8} (ha : Ascii chars) {i n : Nat} (h : Lib.NoAny l chars i) (hb : ∀ j, i ≤ j → j < i + n → ∀ b, l[j]? = some b → 128 ≤ b.toNat) : Lib.NoAny l chars (i + n) := by
  intro j b hj hjb
  by_cases hji : j < i
  · exact h j b hji hjb
  · have := hb j (by omega) hj b hjb
    rw [Bool.eq_false_iff]
    intro hc
    rw [List.contains_iff_mem] at hc
    have := ha b hc
    omega

set_option maxHeartbeats 8000000 in
set_option maxRecDepth 100000 in
theorem indexAny_short (l chars : List UInt8) (w : World) (h2 : 2 ≤ chars.length) (hn : chars.length ≤ 1000000) (h8 : l.length ≤ 8) (ha : Ascii chars) :
    Calls Tryz.prog 116 #[.string (bs l), .string (bs chars)] w fun e w' => e = .returned (.int .i64 (Lib.indexAny l chars)) ∧ Below w.heap.size w w' := by
  have HA := Lib.hid ha
  have hzl := bs_size l
  have hzc := bs_size chars
  have hemp : (bs chars).toList.isEmpty = false := by
    rw [bs_list]; cases chars with | nil => simp at h2 | cons _ _ => rfl
  have hn1 : ((chars.length : Int) == 1) = false := beq_eq_false_iff_ne.2 (by omega)
  have h8z : decide ((8 : Int) < (l.length : Int)) = false := decide_eq_false (by omega)
  clear ha
  go_enter Tryz.func116, Tryz.ntmps116
  go_wp2_with (go_at_call 135; refine (calls_keep (Tryz.strings_shouldUseASCIISet _ _)).mono ?_; rintro e w' ⟨rfl, rfl⟩; rw [h8z])
  go_loopg [9, 10] l.length (fun g _ _ wx => ∃ i : Nat, i ≤ l.length ∧ l.length ≤ i + g ∧ wx.heap[w.heap.size]? = some (.stringIter (bs l) i) ∧ Below w.heap.size w wx ∧ Lib.NoAny l chars i)
  case atStart => exact ⟨0, by omega, by omega, World.iter_heap _ _ _, (Below.refl _ _).alloc (Nat.le_refl _) _, Lib.NoAny.zero _ _⟩
  case round =>
    obtain ⟨i, hi1, hi2, hI, hB, hno⟩ := hrel
    have HN := Lib.hid hno
    have HB := Lib.hid hB
    have HI := Lib.hid hI
    clear hno hB hI
    by_cases hi : i < l.length
    · obtain ⟨g, rfl⟩ : ∃ g, gk = g + 1 := ⟨gk - 1, by omega⟩
      obtain ⟨x, hx⟩ : ∃ x, l[i]? = some x := ⟨_, List.getElem?_eq_getElem hi⟩
      have Hx := Lib.hid hx
      have hib : i < (bs l).size := by omega
      by_cases h128 : x.toNat < 128
      · have hgx : (bs l)[i]'hib = x := by rw [bs_get]; exact (List.getElem?_eq_some_iff.1 hx).2
        have hnx := fun ty => Lib.run_next_ascii_at (P := Tryz.prog) wr w.heap.size (bs l) i ty HI.out hib (by rw [hgx]; exact h128)
        rw [hgx] at hnx
        have HI2 := Lib.hid (Lib.iterAt_heap wr w.heap.size (bs l) i (i + 1) HI.out)
        have HB2 := Lib.hid (Lib.below_iterAt HB.out (Nat.le_refl _) (bs l) (i + 1))
        have hcon := Lib.contains_iff_indexByte chars x
        clear hx hgx
        cases hin : chars.contains x
        · rw [hin] at hcon
          have hlt : ¬ ((0 : Int) ≤ Lib.indexByte chars x) := of_decide_eq_false hcon.symm
          have Hin := Lib.hid hin
          clear hcon hin
          go_wp2_with (go_at_call 134; refine (calls_keep (Tryz.strings_IndexRune_ascii _ _ _ (by omega) (by omega))).mono ?_; rintro e w' ⟨rfl, rfl⟩; rw [Lib.byte_back', bs_toList])
          go_roundg g
          case measure => omega
          case rel => exact ⟨i + 1, by omega, by omega, HI2.out, HB2.out, HN.out.succ Hx.out Hin.out⟩
        · rw [hin] at hcon
          have hge : (0 : Int) ≤ Lib.indexByte chars x := of_decide_eq_true hcon.symm
          have Hin := Lib.hid hin
          clear hcon hin
          go_wp2_with (go_at_call 134; refine (calls_keep (Tryz.strings_IndexRune_ascii _ _ _ (by omega) (by omega))).mono ?_; rintro e w' ⟨rfl, rfl⟩; rw [Lib.byte_back', bs_toList])
          go_ret
          exact ⟨by rw [Lib.indexAny_hit HN.out Hx.out Hin.out]; rfl, HB2.out⟩
      · obtain ⟨d1, d2, d3, d4, d5⟩ := decode_beyond l i x hx (by omega)
        have hnx := fun ty => Lib.run_next_any_at (P := Tryz.prog) wr w.heap.size (bs l) i ty HI.out hib
        generalize Utf8.decode (bs l) i = d at *
        obtain ⟨r, n⟩ := d
        dsimp only at d1 d2 d3 d4 d5 hnx
        have HN2 := Lib.hid (noAny_beyond HA.out HN.out d5)
        have HI2 := Lib.hid (Lib.iterAt_heap wr w.heap.size (bs l) i (i + n) HI.out)
        have HB2 := Lib.hid (Lib.below_iterAt HB.out (Nat.le_refl _) (bs l) (i + n))
        have hzz : (wr.iterAt w.heap.size (bs l) (i + n)).heap.size = wr.heap.size := Lib.iterAt_size _ _ _ _
        have hR := Lib.hid (indexRune_high chars r (wr.iterAt w.heap.size (bs l) (i + n)) hn HA.out (by omega) d2)
        have hwz := HB2.out.size
        have hlt2 : w.heap.size < (wr.iterAt w.heap.size (bs l) (i + n)).heap.size := (Array.getElem?_eq_some_iff.1 HI2.out).1
        clear hx d2 d5 hzz
        go_wp2_with fail
        refine hR.out.mono ?_
        rintro e w' ⟨rfl, hb⟩
        have hB3 := Lib.hid (Below.after' HB2.out hb (Nat.le_refl _))
        have hI3 := Lib.hid ((hb.block _ hlt2).trans HI2.out)
        clear hb
        go_wp2_with fail
        go_roundg g
        case measure => omega
        case rel => exact ⟨i + n, by omega, by omega, hI3.out, hB3.out, HN2.out⟩
    · obtain rfl : i = l.length := by omega
      have hnx := fun ty => Lib.run_next_end_at (P := Tryz.prog) wr w.heap.size (bs l) l.length ty HI.out (by omega)
      go_wp2
      go_ret
      exact ⟨by rw [Lib.indexAny_none HN.out]; rfl, HB.out⟩

theorem anys_ascii {l : List UInt8} (h : Ascii l) (j : Nat) (b : UInt8) (hb : (bs l).data.toList[j]? = some b) : b.toNat < 128 := h b (List.mem_of_getElem? hb)
theorem anys_zero : ∀ w : World, (zeroValue 167).run Tryz.prog w = .ok (.agg (Array.replicate 256 (.bool false))) w := (zero_of_info (n := 256) (by kernel_rfl)).1
theorem indexAny_any (l chars : List UInt8) (w : World) (hl : l.length ≤ 1000000000) (h2 : 2 ≤ chars.length) (hn : chars.length ≤ 1000000) (ha : Ascii chars) :
    Calls Tryz.prog 116 #[.string (bs l), .string (bs chars)] w fun e w' => e = .returned (.int .i64 (Lib.indexAny l chars)) ∧ Below w.heap.size w w' := by
  by_cases h8 : l.length ≤ 8
  · exact indexAny_short l chars w h2 hn h8 ha
  · have hzl := bs_size l
    have hzc := bs_size chars
    refine (Tryz.strings_IndexAny_long anys_zero (bs l) (bs chars) w (by omega) (by omega) (by omega) (by omega) (anys_ascii ha)).mono fun e w' ⟨he, hw⟩ => ⟨he, ?_⟩
    rw [hw]
    exact ((Below.refl _ _).alloc (Nat.le_refl _) _).alloc (by simp) _
theorem indexAny_iff (chars : List UInt8) : ∀ l : List UInt8, decide (0 ≤ Lib.indexAny l chars) = l.any fun b => chars.contains b
  | [] => rfl
  | b :: l => by
    have ih := indexAny_iff chars l
    have hg := Lib.indexAny_ge chars l
    rw [List.any_cons, ← ih]
    have eu : Lib.indexAny (b :: l) chars = if chars.contains b then 0 else if Lib.indexAny l chars == -1 then -1 else Lib.indexAny l chars + 1 := rfl
    rw [eu]
    cases chars.contains b with
    | true => simp
    | false =>
      simp only [Bool.false_eq_true, if_false, Bool.false_or, beq_iff_eq]
      by_cases h : Lib.indexAny l chars = -1
      · rw [if_pos h]; simp [h]
      · rw [if_neg h]
        have h1 : 0 ≤ Lib.indexAny l chars := by omega
        rw [decide_eq_true h1, decide_eq_true (by omega)]

set_option maxHeartbeats 1000000 in
theorem containsAny_any (l chars : List UInt8) (w : World) (hl : l.length ≤ 1000000000) (h2 : 2 ≤ chars.length) (hn : chars.length ≤ 1000000) (ha : Ascii chars) :
    Calls Tryz.prog 90 #[.string (bs l), .string (bs chars)] w fun e w' => e = .returned (.bool (l.any fun b => chars.contains b)) ∧ Below w.heap.size w w' := by
  have H := Lib.hid (indexAny_any l chars w hl h2 hn ha)
  have E := Lib.hid (indexAny_iff chars l)
  clear ha
  go_enter Tryz.func90, Tryz.ntmps90
  go_wp2_with fail
  refine H.out.mono ?_
  rintro e w1 ⟨rfl, hb⟩
  go_wp2
  go_ret
  exact ⟨ret_bool E.out, hb⟩
end Go.Proofs.YtibogpidnnodnaaGreatDoor

/- The walks of layer 15's reading of units. -/
namespace Go.Proofs.YtibogpidnnodnaaGreatDoor
open Go.RowKit

theorem wraps_u8 (n : Int) (h₀ : 0 ≤ n) (h₁ : n < 2 ^ 8) : IntKind.u8.wrap n = n := by rw [IntKind.wrap_u8]; omega
theorem u8_and63 (x : Int) (h₀ : 0 ≤ x) (h₁ : x < 256) : bits .and .u8 x 63 = x % 64 := bits_mask .u8 8 (by decide) wraps_u8 6 (by decide) x h₀ h₁
theorem u8_and31 (x : Int) (h₀ : 0 ≤ x) (h₁ : x < 256) : bits .and .u8 x 31 = x % 32 := bits_mask .u8 8 (by decide) wraps_u8 5 (by decide) x h₀ h₁
theorem u8_and15 (x : Int) (h₀ : 0 ≤ x) (h₁ : x < 256) : bits .and .u8 x 15 = x % 16 := bits_mask .u8 8 (by decide) wraps_u8 4 (by decide) x h₀ h₁
theorem u16_or (i : Nat) (x y : Int) (hx₀ : 0 ≤ x) (hx : x % 2 ^ i = 0) (hx₁ : x < 2 ^ 16) (hy₀ : 0 ≤ y) (hy : y < 2 ^ i) (hy₁ : y < 2 ^ 16) : bits .or .u16 x y = x + y :=
  bits_join .u16 16 (by decide) wraps_u16 i x y hx₀ hx hx₁ hy₀ hy hy₁

set_option maxHeartbeats 4000000 in
theorem further_any (bk : Nat) (i : Nat) (l : List UInt8) (w : World) (hc : w.cell? ⟨bk, 0, none⟩ = some (.string (bs l))) (_hl : l.length ≤ 1000000000) (_hi : i ≤ 2) :
    Calls Tryz.prog 130 #[.int .i64 i, .pointer (some ⟨bk, 0, none⟩)] w fun e w' => e = .returned (.tuple #[.int .u16 (Ut.fx l i : Nat), .bool (Ut.cont l i)]) ∧ w = w' := by
  have hz := bs_size l
  by_cases h1 : i < l.length
  · obtain ⟨c, hcc⟩ : ∃ c, l[i]? = some c := ⟨_, List.getElem?_eq_getElem h1⟩
    have ic := fun x => bs_index l i c hcc .i64 i rfl x
    have c256 := c.toNat_lt
    have d1 : decide (l.length ≤ i) = false := decide_eq_false (by omega)
    by_cases h2 : c.toNat / 64 = 2
    · have e1 := Lib.hid (show Ut.fx l i = c.toNat % 64 by unfold Ut.fx; rw [hcc]; exact if_pos h2)
      have e2 := Lib.hid (show Ut.cont l i = true by unfold Ut.cont; rw [hcc]; exact decide_eq_true h2)
      have m1 := u8_and63 (c.toNat : Int) (by omega) (by omega)
      have d2 : ((c.toNat : Int) / 64 != 2) = false := by simp; omega
      clear hcc h2
      go_enter Tryz.func130, Tryz.ntmps130
      go_wp2
      go_ret2
      exact ⟨by rw [e1.out, e2.out]; simp, rfl⟩
    · have e1 := Lib.hid (show Ut.fx l i = 0 by unfold Ut.fx; rw [hcc]; exact if_neg h2)
      have e2 := Lib.hid (show Ut.cont l i = false by unfold Ut.cont; rw [hcc]; exact decide_eq_false h2)
      have d2 : ((c.toNat : Int) / 64 != 2) = true := by simp; omega
      clear hcc h2
      go_enter Tryz.func130, Tryz.ntmps130
      go_wp2
      go_ret2
      exact ⟨by rw [e1.out, e2.out]; rfl, rfl⟩
  · have hn : l[i]? = none := List.getElem?_eq_none (by omega)
    have e1 := Lib.hid (show Ut.fx l i = 0 by unfold Ut.fx; rw [hn])
    have e2 := Lib.hid (show Ut.cont l i = false by unfold Ut.cont; rw [hn])
    have d1 : decide (l.length ≤ i) = true := decide_eq_true (by omega)
    clear hn
    go_enter Tryz.func130, Tryz.ntmps130
    go_wp2
    go_ret2
    exact ⟨by rw [e1.out, e2.out]; rfl, rfl⟩

set_option maxHeartbeats 8000000 in
set_option maxRecDepth 100000 in
theorem next_any (l : List UInt8) (w : World) (hne : l ≠ []) (hl : l.length ≤ 1000000000) :
    Calls Tryz.prog 113 #[.string (bs l)] w fun e w' => e = .returned (.tuple #[.int .u16 ((Ut.next l).1 : Nat), .int .i64 ((Ut.next l).2 : Nat)]) ∧ Below w.heap.size w w' := by
  have hz := bs_size l
  have h0 : 0 < l.length := List.length_pos_iff.2 hne
  obtain ⟨c, hcc⟩ : ∃ c, l[0]? = some c := ⟨_, List.getElem?_eq_getElem h0⟩
  have ic := fun x => bs_index l 0 c hcc .i64 0 rfl x
  have c256 := c.toNat_lt
  have hd : l.headD 0 = c := by cases l with | nil => exact absurd rfl hne | cons a r => simpa using hcc
  have f1 := fun w' (h : w'.cell? ⟨w.heap.size, 0, none⟩ = some (.string (bs l))) => further_any w.heap.size 1 l w' h hl (by omega)
  have f2 := fun w' (h : w'.cell? ⟨w.heap.size, 0, none⟩ = some (.string (bs l))) => further_any w.heap.size 2 l w' h hl (by omega)
  have F1 := Lib.hid f1
  have F2 := Lib.hid f2
  have x1 := Ut.fx_lt l 1
  have x2 := Ut.fx_lt l 2
  have en : Ut.next l = (if c.toNat ≠ 0 ∧ c.toNat < 128 then (c.toNat, 1)
      else if c.toNat / 32 = 6 then (if Ut.cont l 1 = true ∧ (Ut.u2 l = 0 ∨ 128 ≤ Ut.u2 l) then (Ut.u2 l, 2) else (0, 0))
      else if c.toNat / 16 = 14 then (if Ut.cont l 1 = true ∧ Ut.cont l 2 = true ∧ 2048 ≤ Ut.u3 l then (Ut.u3 l, 3) else (0, 0)) else (0, 0)) := by unfold Ut.next; rw [hd]
  have eu2 : Ut.u2 l = c.toNat % 32 * 64 + Ut.fx l 1 := by unfold Ut.u2; rw [hd]
  have eu3 : Ut.u3 l = c.toNat % 16 * 4096 + Ut.fx l 1 * 64 + Ut.fx l 2 := by unfold Ut.u3; rw [hd]
  have EN := Lib.hid en
  have E2 := Lib.hid eu2
  have E3 := Lib.hid eu3
  clear f1 f2 hd hcc en eu2 eu3
  by_cases c1 : c.toNat ≠ 0 ∧ c.toNat < 128
  · have en := Lib.hid (show Ut.next l = (c.toNat, 1) by rw [EN.out, if_pos c1])
    obtain ⟨c1, c2⟩ := c1
    have d1 : ((c.toNat : Int) != 0) = true := by simp; omega
    have d2 : decide ((c.toNat : Int) < 128) = true := decide_eq_true (by omega)
    clear c1
    go_enter Tryz.func113, Tryz.ntmps113
    go_wp2
    go_ret2
    exact ⟨by rw [en.out]; rfl, (Below.refl _ _).alloc (Nat.le_refl _) _⟩
  · have d1 : ((c.toNat : Int) != 0) = false ∨ ((c.toNat : Int) != 0) = true ∧ decide ((c.toNat : Int) < 128) = false := by simp; omega
    by_cases k2 : c.toNat / 32 = 6
    · have EN2 := Lib.hid (show Ut.next l = (if Ut.cont l 1 = true ∧ (Ut.u2 l = 0 ∨ 128 ≤ Ut.u2 l) then (Ut.u2 l, 2) else (0, 0)) by rw [EN.out, if_neg c1, if_pos k2])
      have d2 : ((c.toNat : Int) / 32 == 6) = true := by simp; omega
      have m1 := u8_and31 (c.toNat : Int) (by omega) (by omega)
      have o1 := u16_or 6 ((c.toNat : Int) % 32 * 64) (Ut.fx l 1 : Nat) (by omega) (by omega) (by omega) (by omega) (by omega) (by omega)
      rw [show ((c.toNat : Int) % 32 * 64) + (Ut.fx l 1 : Nat) = ((Ut.u2 l : Nat) : Int) by rw [E2.out]; omega] at o1
      generalize Ut.u2 l = u at *
      have ck : c.toNat ≠ 0 ∧ 128 ≤ c.toNat := by omega
      have d3 : ((c.toNat : Int) != 0) = true := by simp; omega
      have d4 : decide ((c.toNat : Int) < 128) = false := decide_eq_false (by omega)
      clear E2 E3 EN c1 k2 d1 x2
      have hcs : (Ut.cont l 1 = true ∧ ((u : Int) == 0) = true ∧ Hid (Ut.next l = (u, 2))) ∨ (Ut.cont l 1 = true ∧ ((u : Int) == 0) = false ∧ decide ((128 : Int) ≤ u) = true ∧ Hid (Ut.next l = (u, 2))) ∨
          (Ut.cont l 1 = true ∧ ((u : Int) == 0) = false ∧ decide ((128 : Int) ≤ u) = false ∧ Hid (Ut.next l = (0, 0))) ∨ (Ut.cont l 1 = false ∧ Hid (Ut.next l = (0, 0))) := by
        have e := EN2.out
        by_cases b1 : Ut.cont l 1 = true
        · by_cases b2 : u = 0
          · left; exact ⟨b1, by simp [b2], Lib.hid (by rw [e, if_pos ⟨b1, .inl b2⟩])⟩
          · by_cases b3 : 128 ≤ u
            · right; left; exact ⟨b1, by simp; omega, decide_eq_true (by omega), Lib.hid (by rw [e, if_pos ⟨b1, .inr b3⟩])⟩
            · right; right; left; exact ⟨b1, by simp; omega, decide_eq_false (by omega), Lib.hid (by rw [e, if_neg (fun h => by rcases h.2 with h | h; exact b2 h; exact b3 h)])⟩
        · right; right; right; exact ⟨by simpa using b1, Lib.hid (by rw [e, if_neg (fun h => b1 h.1)])⟩
      clear EN2
      rcases hcs with ⟨b1, b2, en⟩ | ⟨b1, b2, b3, en⟩ | ⟨b1, b2, b3, en⟩ | ⟨b1, en⟩
      all_goals
        go_enter Tryz.func113, Tryz.ntmps113
        go_wp2_with fail
        refine (F1.out _ (cell_of_row _ _ 0 _ _ _ (heap_alloc_new w _))).mono ?_
        rintro e w1 ⟨rfl, rfl⟩
        go_wp2
        go_ret2
        exact ⟨by rw [en.out]; rfl, (Below.refl _ _).alloc (Nat.le_refl _) _⟩
    · have d2 : ((c.toNat : Int) / 32 == 6) = false := by simp; omega
      by_cases k3 : c.toNat / 16 = 14
      · have EN2 := Lib.hid (show Ut.next l = (if Ut.cont l 1 = true ∧ Ut.cont l 2 = true ∧ 2048 ≤ Ut.u3 l then (Ut.u3 l, 3) else (0, 0)) by rw [EN.out, if_neg c1, if_neg k2, if_pos k3])
        have d5 : ((c.toNat : Int) / 16 == 14) = true := by simp; omega
        have m1 := u8_and15 (c.toNat : Int) (by omega) (by omega)
        have o1 := u16_or 12 ((c.toNat : Int) % 16 * 4096) ((Ut.fx l 1 : Nat) * 64) (by omega) (by omega) (by omega) (by omega) (by omega) (by omega)
        have o2 := u16_or 6 ((c.toNat : Int) % 16 * 4096 + (Ut.fx l 1 : Nat) * 64) (Ut.fx l 2 : Nat) (by omega) (by omega) (by omega) (by omega) (by omega) (by omega)
        rw [show ((c.toNat : Int) % 16 * 4096) + (Ut.fx l 1 : Nat) * 64 + (Ut.fx l 2 : Nat) = ((Ut.u3 l : Nat) : Int) by rw [E3.out]; omega] at o2
        generalize Ut.u3 l = u at *
        have d3 : ((c.toNat : Int) != 0) = true := by simp; omega
        have d4 : decide ((c.toNat : Int) < 128) = false := decide_eq_false (by omega)
        have hcs : (Ut.cont l 1 = true ∧ Ut.cont l 2 = true ∧ decide ((2048 : Int) ≤ u) = true ∧ Hid (Ut.next l = (u, 3))) ∨ (Ut.cont l 1 = true ∧ Ut.cont l 2 = true ∧ decide ((2048 : Int) ≤ u) = false ∧ Hid (Ut.next l = (0, 0))) ∨
            (Ut.cont l 1 = true ∧ Ut.cont l 2 = false ∧ True ∧ Hid (Ut.next l = (0, 0))) ∨ (Ut.cont l 1 = false ∧ True ∧ True ∧ Hid (Ut.next l = (0, 0))) := by
          have e := EN2.out
          by_cases b1 : Ut.cont l 1 = true
          · by_cases b2 : Ut.cont l 2 = true
            · by_cases b3 : 2048 ≤ u
              · left; exact ⟨b1, b2, decide_eq_true (by omega), Lib.hid (by rw [e, if_pos ⟨b1, b2, b3⟩])⟩
              · right; left; exact ⟨b1, b2, decide_eq_false (by omega), Lib.hid (by rw [e, if_neg (fun h => b3 h.2.2)])⟩
            · right; right; left; exact ⟨b1, by simpa using b2, trivial, Lib.hid (by rw [e, if_neg (fun h => b2 h.2.1)])⟩
          · right; right; right; exact ⟨by simpa using b1, trivial, trivial, Lib.hid (by rw [e, if_neg (fun h => b1 h.1)])⟩
        clear EN2 E2 E3 EN c1 k2 k3 d1
        rcases hcs with ⟨b1, b2, b3, en⟩ | ⟨b1, b2, b3, en⟩ | ⟨b1, b2, b3, en⟩ | ⟨b1, b2, b3, en⟩
        all_goals
          go_enter Tryz.func113, Tryz.ntmps113
          go_wp2_with fail
          refine (F1.out _ (cell_of_row _ _ 0 _ _ _ (heap_alloc_new w _))).mono ?_
          rintro e w1 ⟨rfl, rfl⟩
          go_wp2_with fail
          refine (F2.out _ (cell_of_row _ _ 0 _ _ _ (heap_alloc_new w _))).mono ?_
          rintro e w1 ⟨rfl, rfl⟩
          go_wp2
          go_ret2
          exact ⟨by rw [en.out]; rfl, (Below.refl _ _).alloc (Nat.le_refl _) _⟩
      · have en := Lib.hid (show Ut.next l = (0, 0) by rw [EN.out, if_neg c1, if_neg k2, if_neg k3])
        have d5 : ((c.toNat : Int) / 16 == 14) = false := by simp; omega
        clear EN E2 E3 c1 k2 k3
        rcases d1 with d1 | ⟨d1, d3⟩
        all_goals
          go_enter Tryz.func113, Tryz.ntmps113
          go_wp2
          go_ret2
          exact ⟨by rw [en.out]; rfl, (Below.refl _ _).alloc (Nat.le_refl _) _⟩
end Go.Proofs.YtibogpidnnodnaaGreatDoor

/- The walks of layer 15's reading of rows. -/
namespace Go.Proofs.YtibogpidnnodnaaGreatDoor
open Go.RowKit

theorem infoU16 : (Tryz.prog.info? 142).map (fun i => (i.zero, i.size, i.bytes)) = some (some (.int .u16 0), 1, 2) := by kernel_rfl
def uc (us : List Nat) : List Value := us.map fun n : Nat => Value.int .u16 (n : Int)
theorem uc_length (us : List Nat) : (uc us).length = us.length := List.length_map ..
def URow (w : World) (base : Nat) (v : Value) (us : List Nat) : Prop := w.ownsRow base 142 1 v us.length (uc us)
theorem URow.grow {w w1 : World} {base : Nat} {v : Value} {xs : List Nat} (h : URow w base v xs) (k : Below w.heap.size w w1) : URow w1 base v xs := own_below h k
theorem URow.app {w : World} {base : Nat} {v : Value} {xs ys : List Nat} {n : Nat} (h : w.ownsRow base 142 1 v n (uc xs ++ uc ys)) (hn : n = xs.length + ys.length) : URow w base v (xs ++ ys) := by
  unfold URow
  rw [List.length_append, show uc (xs ++ ys) = uc xs ++ uc ys from List.map_append .., ← hn]
  exact h
/-- What Units comes to. -/
def UnitsRes (l : List UInt8) (w : World) (e : Ending) (w' : World) : Prop :=
  ∃ v, e = .returned (.tuple #[v, .bool (Ut.units l).isSome]) ∧ Below w.heap.size w w' ∧ (match Ut.units l with | some us => URow w' w.heap.size v us | none => v = .slice none 0 0)

set_option maxHeartbeats 8000000 in
set_option maxRecDepth 100000 in
theorem units_any (l : List UInt8) (w : World) (hl : l.length ≤ 1000000000) :
    Calls Tryz.prog 80 #[.string (bs l)] w (UnitsRes l w) := by
  obtain ⟨i0, hi, hz0, hz1, hz2⟩ := info_parts infoU16
  go_enter Tryz.func80, Tryz.ntmps80
  go_wp2_with fail
  go_loopw [0, 4] (fun s v wr => ∃ r acc, s = .string (bs r) ∧ URow wr w.heap.size v acc ∧ Below w.heap.size w wr ∧ Ut.units l = (Ut.units r).map (acc ++ ·) ∧ r.length + acc.length ≤ l.length) (fun s _ _ => match s with | .string b => b.size | _ => 0)
  case atStart => exact ⟨l, [], rfl, World.ownsRow_nil _ _ _ _, Below.refl _ _, by cases Ut.units l <;> rfl, by simp⟩
  case round =>
    obtain ⟨r, acc, rfl, hrow, hB, hu, hlen⟩ := hrel
    have HR := Lib.hid hrow
    have HB := Lib.hid hB
    have HU := Lib.hid hu
    have hzr := bs_size r
    clear hrow hB hu
    by_cases hr : r = []
    · have hr0 : r.length = 0 := by rw [hr]; rfl
      have hfin := Lib.hid (show Ut.units l = some acc by rw [HU.out, hr, Ut.units_nil]; simp)
      clear hr
      go_wp2
      go_ret2
      refine ⟨_, by rw [hfin.out]; rfl, HB.out, ?_⟩
      rw [hfin.out]
      exact HR.out
    · have hr0 : 0 < r.length := List.length_pos_iff.2 hr
      have hN := Lib.hid (next_any r wr hr (by omega))
      have hle := Ut.next_le hr
      have h16 := Ut.next_u16 r
      by_cases h0 : (Ut.next r).2 = 0
      · have hfin := Lib.hid (show Ut.units l = none by rw [HU.out, Ut.units_stop hr h0]; rfl)
        rw [h0] at hN
        clear h0 hr hle
        go_wp2_with fail
        refine hN.out.mono ?_
        rintro e w1 ⟨rfl, hb⟩
        have HB2 := Lib.hid (Below.after' HB.out hb (Nat.le_refl _))
        clear hb hN
        go_wp2
        go_ret2
        refine ⟨_, by rw [hfin.out]; rfl, HB2.out, ?_⟩
        rw [hfin.out]
        rfl
      · have hst := Lib.hid (Ut.units_step hr h0)
        generalize hnn : Ut.next r = un at *
        obtain ⟨u, n⟩ := un
        dsimp only at hle h16 h0 hst hN
        have hd0 : ((n : Int) == 0) = false := by simp; exact h0
        have hd := Lib.hid (show (bs r).extract n r.length = bs (r.drop n) by rw [bs_extract, List.take_of_length_le (by simp)])
        clear hnn hr
        go_wp2_with fail
        refine hN.out.mono ?_
        rintro e w1 ⟨rfl, hb⟩
        have HB2 := Lib.hid (Below.after' HB.out hb (Nat.le_refl _))
        have HR2 := Lib.hid (HR.out.grow hb)
        clear hb hN
        go_wp2_with (at_builtin; (refine wpList_append_row rfl _ _ 107 107 rfl w.heap.size 142 i0 (.int .u16 0) 1 2 Tryz.underlying107 hi hz0 hz1 hz2 rfl u4 _ _ rfl (HR2.out.grow ((Below.refl _ _).alloc (Nat.le_refl _) _)) (.slice (some ⟨w1.heap.size, 0, none⟩) 1 1) 1 [.int .u16 (u : Int)] rfl ?_ ?c0 ?c1 ?c2 ?c3))
        case c0 => exact src_block Tryz.underlying107 1 1 1 _ #[.int .u16 (u : Int)] _ _ (heap_alloc_new _ _) rfl (by simp [Value.oneCell'])
        case c1 => unfold maxLen; omega
        case c2 => omega
        case c3 => rw [World.size_alloc]; have := HB2.out.size; omega
        intro v' w2 hown hhop
        have hown' := Lib.hid (URow.app (xs := acc) (ys := [u]) hown rfl)
        have HB3 := Lib.hid (((HB2.out).alloc HB2.out.size (.cells #[.int .u16 (u : Int)] 142)).trans (hhop.below (by rw [World.size_alloc]; have := HB2.out.size; omega) (fun k e => (HR2.out.lt k e).1)))
        clear hown hhop
        go_wp2_with fail
        go_roundw
        case rel => exact ⟨r.drop n, acc ++ [u], by rw [hd.out], hown'.out, HB3.out, by rw [HU.out, hst.out]; cases Ut.units (r.drop n) <;> simp, by simp; omega⟩
        case measure => rw [hd.out]; show (bs (r.drop n)).size < (bs r).size; rw [bs_size, bs_size, List.length_drop]; omega

theorem right_any (l : List UInt8) (w : World) (hl : l.length ≤ 1000000000) :
    Calls Tryz.prog 42 #[.string (bs l)] w fun e w' => e = .returned (.bool (Ut.right l)) ∧ Below w.heap.size w w' := by
  have H := Lib.hid (units_any l w hl)
  go_enter Tryz.func42, Tryz.ntmps42
  go_wp2_with fail
  refine H.out.mono ?_
  rintro e w1 ⟨v, rfl, hb, _⟩
  go_wp2
  go_ret
  exact ⟨rfl, hb⟩
end Go.Proofs.YtibogpidnnodnaaGreatDoor

/- The walks of layer 17: members' and methods' names. -/
namespace Go.Proofs.YtibogpidnnodnaaGreatDoor
open Go.RowKit

theorem has_hit {l chars : List UInt8} {i k : Nat} {c : UInt8} (h1 : l[i]? = some c) (h2 : chars[k]? = some c) : De.has chars l = true :=
  List.any_eq_true.2 ⟨c, List.mem_of_getElem? h1, by rw [List.contains_iff_mem]; exact List.mem_of_getElem? h2⟩
theorem has_none {l chars : List UInt8} (h : Lib.NoAny l chars l.length) : De.has chars l = false := by
  rw [Bool.eq_false_iff]
  intro h2
  obtain ⟨c, hc, hcc⟩ := List.any_eq_true.1 h2
  obtain ⟨i, hi⟩ := List.getElem?_of_mem hc
  have := h i c (List.getElem?_eq_some_iff.1 hi).1 hi
  rw [this] at hcc
  cases hcc
/-- None of the first k signs is c. -/
def NoC (chars : List UInt8) (c : UInt8) (k : Nat) : Prop := ∀ (j : Nat) b, j < k → chars[j]? = some b → b ≠ c
theorem NoC.succ {chars : List UInt8} {c d : UInt8} {k : Nat} (h : NoC chars c k) (hd : chars[k]? = some d) (hne : d ≠ c) : NoC chars c (k + 1) := by
  intro j b hj hb
  by_cases e : j = k
  · subst e; rw [hd] at hb; cases hb; exact hne
  · exact h j b (by omega) hb
theorem NoC.full {chars : List UInt8} {c : UInt8} (h : NoC chars c chars.length) : chars.contains c = false := by
  rw [Bool.eq_false_iff]
  intro h2
  rw [List.contains_iff_mem] at h2
  obtain ⟨i, hi⟩ := List.getElem?_of_mem h2
  exact h i c (List.getElem?_eq_some_iff.1 hi).1 hi rfl

end Go.Proofs.YtibogpidnnodnaaGreatDoor

/- The walks of layer 17: members' and methods' names. -/
namespace Go.Proofs.YtibogpidnnodnaaGreatDoor
open Go.RowKit

theorem bs_empty_false {l : List UInt8} (h : l ≠ []) : (bs l).toList.isEmpty = false := by rw [bs_list]; cases l with | nil => exact absurd rfl h | cons _ _ => rfl
theorem bs_empty_true : (bs []).toList = [] := bs_list []
theorem bs_is (l m : List UInt8) : ((bs l).toList == m) = decide (l = m) := by rw [bs_list]; by_cases h : l = m <;> simp [h]
theorem ascii_of {l : List UInt8} (h : (l.all fun c => decide (c.toNat < 128)) = true) : Ascii l := fun c hc => by simpa using List.all_eq_true.1 h c hc

set_option maxHeartbeats 1000000 in
theorem member_any (l : List UInt8) (w : World) (hl : l.length ≤ 1000000000) :
    Calls Tryz.prog 105 #[.string (bs l)] w fun e w' => e = .returned (.bool (De.member l)) ∧ Below w.heap.size w w' := by
  by_cases h : l = []
  · subst h
    have hz := bs_empty_true
    go_enter Tryz.func105, Tryz.ntmps105
    go_wp2
    go_ret
    exact ⟨rfl, Below.refl _ _⟩
  · have hz := bs_empty_false h
    have H1 := Lib.hid (containsAny_any l [46, 59, 91, 47] w hl (by simp) (by simp) (ascii_of (by decide)))
    have H2 := Lib.hid fun w' => right_any l w' hl
    cases hh : De.has [46, 59, 91, 47] l
    · have hfin := Lib.hid (show De.member l = Ut.right l by unfold De.member; rw [hh]; cases l with | nil => exact absurd rfl h | cons _ _ => simp)
      have hh2 : (l.any fun b => ([46, 59, 91, 47] : List UInt8).contains b) = false := hh
      have HH := Lib.hid hh2
      clear h hh hh2
      go_enter Tryz.func105, Tryz.ntmps105
      go_wp2_with fail
      refine H1.out.mono ?_
      rw [HH.out]
      rintro e w1 ⟨rfl, hb⟩
      have J1 := Lib.hid hb
      clear hb
      go_wp2_with fail
      refine (H2.out _).mono ?_
      rintro e w2 ⟨rfl, hb⟩
      have J2 := Lib.hid (Below.after' J1.out hb (Nat.le_refl _))
      clear hb
      go_wp2
      go_ret
      exact ⟨ret_bool (by rw [hfin.out]), J2.out⟩
    · have hfin := Lib.hid (show De.member l = false by unfold De.member; rw [hh]; simp)
      have hh2 : (l.any fun b => ([46, 59, 91, 47] : List UInt8).contains b) = true := hh
      have HH := Lib.hid hh2
      clear h hh hh2
      go_enter Tryz.func105, Tryz.ntmps105
      go_wp2_with fail
      refine H1.out.mono ?_
      rw [HH.out]
      rintro e w1 ⟨rfl, hb⟩
      have J1 := Lib.hid hb
      clear hb
      go_wp2
      go_ret
      exact ⟨ret_bool hfin.out.symm, J1.out⟩

set_option maxHeartbeats 1000000 in
theorem method_any (l : List UInt8) (w : World) (hl : l.length ≤ 1000000000) :
    Calls Tryz.prog 107 #[.string (bs l)] w fun e w' => e = .returned (.bool (De.method l)) ∧ Below w.heap.size w w' := by
  have q1 := bs_is l [60, 105, 110, 105, 116, 62]
  have q2 := bs_is l [60, 99, 108, 105, 110, 105, 116, 62]
  by_cases h1 : l = [60, 105, 110, 105, 116, 62]
  · have hfin := Lib.hid (show De.method l = true by unfold De.method; rw [decide_eq_true h1]; rfl)
    rw [decide_eq_true h1] at q1
    clear h1 q2
    go_enter Tryz.func107, Tryz.ntmps107
    go_wp2
    go_ret
    exact ⟨ret_bool hfin.out.symm, Below.refl _ _⟩
  · by_cases h2 : l = [60, 99, 108, 105, 110, 105, 116, 62]
    · have hfin := Lib.hid (show De.method l = true by unfold De.method; rw [decide_eq_true h2]; simp)
      rw [decide_eq_true h2] at q2
      rw [decide_eq_false h1] at q1
      clear h1 h2
      go_enter Tryz.func107, Tryz.ntmps107
      go_wp2
      go_ret
      exact ⟨ret_bool hfin.out.symm, Below.refl _ _⟩
    · rw [decide_eq_false h2] at q2
      rw [decide_eq_false h1] at q1
      have hm := Lib.hid (show De.method l = (De.member l && !De.has [60, 62] l) by unfold De.method; rw [decide_eq_false h1, decide_eq_false h2]; rfl)
      have H1 := Lib.hid (member_any l w hl)
      have H2 := Lib.hid fun w' => containsAny_any l [60, 62] w' hl (by simp) (by simp) (ascii_of (by decide))
      clear h1 h2
      cases hh : De.member l
      · have hfin := Lib.hid (show De.method l = false by rw [hm.out, hh]; rfl)
        have HH := Lib.hid hh
        clear hh
        go_enter Tryz.func107, Tryz.ntmps107
        go_wp2_with fail
        refine H1.out.mono ?_
        rw [HH.out]
        rintro e w1 ⟨rfl, hb⟩
        have J1 := Lib.hid hb
        clear hb
        go_wp2
        go_ret
        exact ⟨ret_bool hfin.out.symm, J1.out⟩
      · have hfin := Lib.hid (show De.method l = !(l.any fun b => ([60, 62] : List UInt8).contains b) by rw [hm.out, hh]; rfl)
        have HH := Lib.hid hh
        clear hh
        go_enter Tryz.func107, Tryz.ntmps107
        go_wp2_with fail
        refine H1.out.mono ?_
        rw [HH.out]
        rintro e w1 ⟨rfl, hb⟩
        have J1 := Lib.hid hb
        clear hb
        go_wp2_with fail
        refine (H2.out _).mono ?_
        rintro e w2 ⟨rfl, hb⟩
        have J2 := Lib.hid (Below.after' J1.out hb (Nat.le_refl _))
        clear hb
        generalize hX : (l.any fun b => ([60, 62] : List UInt8).contains b) = X at *
        have HX := Lib.hid hX
        clear hX
        go_wp2
        go_ret
        exact ⟨ret_bool (by rw [hfin.out]), J2.out⟩

end Go.Proofs.YtibogpidnnodnaaGreatDoor

/- The walks of layer 17: classes' names. -/
namespace Go.Proofs.YtibogpidnnodnaaGreatDoor
open Go.RowKit

/-- The library's variable holds some number. -/
def MaxP (w : World) : Prop := ∃ m, w.cell? ⟨0, 0, none⟩ = some (.int .i64 m)
theorem maxP_of {w : World} (h : w.ShapedOpen Tryz.prog) : MaxP w := Tryz.laysM146.s1_3 w h
theorem max_below {w w' : World} (h : MaxP w) (k : Below w.heap.size w w') : MaxP w' := by
  obtain ⟨m, hm⟩ := h
  have hlt : (0 : Nat) < w.heap.size := by
    rcases Nat.lt_or_ge 0 w.heap.size with h | h
    · exact h
    · exfalso
      simp only [World.cell?] at hm
      rw [Array.getElem?_eq_none h] at hm
      cases hm
  exact ⟨m, (k.cell (p := ⟨0, 0, none⟩) hlt).trans hm⟩
def De.bad (p : List UInt8) : Bool := p.isEmpty || De.has [46, 59, 91] p

set_option maxHeartbeats 1000000 in
theorem bad_any (l : List UInt8) (w : World) (hl : l.length ≤ 1000000000) :
    Calls Tryz.prog 89 #[.string (bs l)] w fun e w' => e = .returned (.bool (De.bad l)) ∧ Below w.heap.size w w' := by
  by_cases h : l = []
  · subst h
    have hz := bs_empty_true
    go_enter Tryz.func89, Tryz.ntmps89
    go_wp2
    go_ret
    exact ⟨rfl, Below.refl _ _⟩
  · have hz := bs_empty_false h
    have H1 := Lib.hid (containsAny_any l [46, 59, 91] w hl (by simp) (by simp) (ascii_of (by decide)))
    have hfin := Lib.hid (show De.bad l = (l.any fun b => ([46, 59, 91] : List UInt8).contains b) by unfold De.bad; cases l with | nil => exact absurd rfl h | cons _ _ => rfl)
    clear h
    go_enter Tryz.func89, Tryz.ntmps89
    go_wp2_with fail
    refine H1.out.mono ?_
    rintro e w1 ⟨rfl, hb⟩
    have J1 := Lib.hid hb
    clear hb
    generalize hX : (l.any fun b => ([46, 59, 91] : List UInt8).contains b) = X at *
    have HX := Lib.hid hX
    clear hX
    go_wp2
    go_ret
    exact ⟨ret_bool (by rw [hfin.out]), J1.out⟩

set_option maxHeartbeats 4000000 in
set_option maxRecDepth 100000 in
theorem indexFunc_bad (bk c : Nat) (ps : List (List UInt8)) (w : World) (hcells : ∀ (j : Nat) x, ps[j]? = some x → w.cell? ⟨bk, j, none⟩ = some (.string (bs x))) (hbk : bk < w.heap.size) (_hcap : ps.length ≤ c) (hps : ∀ p ∈ ps, p.length ≤ 1000000000) (hn : ps.length ≤ 2000000000) :
    Calls Tryz.prog 91 #[.slice (some ⟨bk, 0, none⟩) ps.length c, .func (.func 89) #[] #[]] w fun e w' => (∃ x : Int, e = .returned (.int .i64 x) ∧ decide (0 ≤ x) = ps.any De.bad) ∧ Below w.heap.size w w' := by
  have HC := Lib.hid hcells
  have HP := Lib.hid hps
  clear hcells hps
  go_enter Tryz.func91, Tryz.ntmps91
  go_wp2_with fail
  go_loopw [8] (fun u wr => ∃ i : Nat, i ≤ ps.length ∧ u = .int .i64 i ∧ Below w.heap.size w wr ∧ (ps.take i).any De.bad = false) (fun u _ => ps.length - (intOf u).toNat)
  case atStart => exact ⟨0, Nat.zero_le _, rfl, Below.refl _ _, rfl⟩
  case round =>
    obtain ⟨i, hil, rfl, hB, hno⟩ := hrel
    have HB := Lib.hid hB
    have HN := Lib.hid hno
    have hbk2 : bk < wr.heap.size := Nat.lt_of_lt_of_le hbk hB.size
    by_cases h1 : i < ps.length
    · obtain ⟨p, hp⟩ : ∃ p, ps[i]? = some p := ⟨_, List.getElem?_eq_getElem h1⟩
      have hcell : wr.cell? ⟨bk, i, none⟩ = some (.string (bs p)) := by rw [World.cell?_of_block (hB.block bk hbk)]; exact HC.out i _ hp
      have HF := Lib.hid (bad_any p wr (HP.out p (List.mem_of_getElem? hp)))
      have HS := Lib.hid (show ps.take (i + 1) = ps.take i ++ [p] from by obtain ⟨h2, rfl⟩ := List.getElem?_eq_some_iff.1 hp; exact List.take_succ_eq_append_getElem h2)
      have HM := Lib.hid (List.mem_of_getElem? hp)
      clear hB hno hp
      cases hb : De.bad p
      · have HBD := Lib.hid hb
        clear hb
        go_wp2_with fail
        refine HF.out.mono ?_
        rw [HBD.out]
        rintro e w1 ⟨rfl, hb⟩
        have HB2 := Lib.hid (Below.after' HB.out hb (Nat.le_refl _))
        clear hb
        go_wp2
        go_roundw
        case rel => exact ⟨i + 1, by omega, by go_num, HB2.out, by rw [HS.out, List.any_append, HN.out]; simp [HBD.out]⟩
        case measure => simp [intOf]; omega
      · have HBD := Lib.hid hb
        have hfin := Lib.hid (show ps.any De.bad = true from List.any_eq_true.2 ⟨p, HM.out, hb⟩)
        clear hb
        go_wp2_with fail
        refine HF.out.mono ?_
        rw [HBD.out]
        rintro e w1 ⟨rfl, hb⟩
        have HB2 := Lib.hid (Below.after' HB.out hb (Nat.le_refl _))
        clear hb
        go_wp2
        go_ret
        exact ⟨⟨_, rfl, by rw [hfin.out]; simp⟩, HB2.out⟩
    · have hfin := Lib.hid (show ps.any De.bad = false by rw [List.take_of_length_le (by omega)] at hno; exact hno)
      clear hno hB
      go_wp2
      go_ret
      exact ⟨⟨-1, rfl, by rw [hfin.out]; rfl⟩, HB.out⟩

theorem containsFunc_bad (bk c : Nat) (ps : List (List UInt8)) (w : World) (hcells : ∀ (j : Nat) x, ps[j]? = some x → w.cell? ⟨bk, j, none⟩ = some (.string (bs x))) (hbk : bk < w.heap.size) (hcap : ps.length ≤ c) (hps : ∀ p ∈ ps, p.length ≤ 1000000000) (hn : ps.length ≤ 2000000000) :
    Calls Tryz.prog 52 #[.slice (some ⟨bk, 0, none⟩) ps.length c, .func (.func 89) #[] #[]] w fun e w' => e = .returned (.bool (ps.any De.bad)) ∧ Below w.heap.size w w' := by
  have H := Lib.hid (indexFunc_bad bk c ps w hcells hbk hcap hps hn)
  clear hcells hps
  go_enter Tryz.func52, Tryz.ntmps52
  go_wp2_with fail
  refine H.out.mono ?_
  rintro e w1 ⟨⟨x, rfl, hx⟩, hb⟩
  have HX := Lib.hid hx
  clear hx
  go_wp2
  go_ret
  exact ⟨ret_bool HX.out, hb⟩
end Go.Proofs.YtibogpidnnodnaaGreatDoor

/- The walks of layer 17: classes' names. -/
namespace Go.Proofs.YtibogpidnnodnaaGreatDoor
open Go.RowKit

theorem segs_lens (c : UInt8) : ∀ l : List UInt8, (∀ p ∈ De.segs c l, p.length ≤ l.length) ∧ (De.segs c l).length ≤ l.length + 1
  | [] => by simp [De.segs]
  | b :: l => by
    obtain ⟨h1, h2⟩ := segs_lens c l
    unfold De.segs
    split
    · refine ⟨fun p hp => ?_, by simp; omega⟩
      simp only [List.mem_cons] at hp
      rcases hp with rfl | hp
      · simp
      · have := h1 p hp; simp; omega
    · split
      · simp
      · rename_i p ps hs
        rw [hs] at h1 h2
        refine ⟨fun q hq => ?_, by simp at h2 ⊢; omega⟩
        simp only [List.mem_cons] at hq
        rcases hq with rfl | hq
        · have := h1 p (by simp); simp; omega
        · have := h1 q (by simp [hq]); simp; omega
theorem split_any (l : List UInt8) (w : World) (hl : l.length ≤ 1000000000) (hm : MaxP w) :
    Calls Tryz.prog 88 #[.string (bs l), .string ⟨#[47]⟩] w fun e w' => e = .returned (.slice (some ⟨w.heap.size, 0, none⟩) (De.segs 47 l).length (De.segs 47 l).length) ∧ Below w.heap.size w w' ∧ w.heap.size < w'.heap.size ∧
      ∀ (j : Nat) x, (De.segs 47 l)[j]? = some x → w'.cell? ⟨w.heap.size, j, none⟩ = some (.string (bs x)) := by
  obtain ⟨m, hm⟩ := hm
  have hz := bs_size l
  have hk : Lib.countB (bs l) ⟨#[47]⟩ = l.count 47 := by
    show Lib.count (bs l).data.toList [47] = _
    rw [bs_toList, Lib.count_one]
  have hd := Lib.splitB_data ⟨#[47]⟩ 0 (l.count 47) (bs l)
  rw [bs_toList] at hd
  have hseg : (Lib.splitB ⟨#[47]⟩ 0 (l.count 47) (bs l)).map (·.data.toList) = De.segs 47 l := by rw [hd]; exact De.splitK_segs 47 l
  have hlen : (De.segs 47 l).length = l.count 47 + 1 := by
    rw [← hseg, List.length_map, Lib.splitB_all ⟨#[47]⟩ (by decide) 0 (l.count 47) (bs l) hk]
  refine (Tryz.strings_Split (bs l) ⟨#[47]⟩ m w (by omega) hm (by decide)).mono fun e w' ⟨he, hw⟩ => ?_
  rw [hk] at he hw
  subst hw
  refine ⟨by rw [he, hlen], (Below.refl _ _).alloc (Nat.le_refl _) _, by simp, fun j x hx => ?_⟩
  rw [← hseg, List.getElem?_map] at hx
  obtain ⟨y, hy, rfl⟩ := Option.map_eq_some_iff.1 hx
  rw [cell_of_row _ _ j _ _ _ (heap_alloc_new w _)]
  rw [List.getElem?_toArray, List.getElem?_map, hy]
  rfl

set_option maxHeartbeats 1000000 in
theorem class_any (l : List UInt8) (w : World) (hl : l.length ≤ 1000000000) (hm : MaxP w) :
    Calls Tryz.prog 51 #[.string (bs l)] w fun e w' => e = .returned (.bool (De.cls l)) ∧ Below w.heap.size w w' := by
  have H1 := Lib.hid (split_any l w hl hm)
  have hcls := Lib.hid (De.cls_eq l)
  obtain ⟨s1, s2⟩ := segs_lens 47 l
  have S1 := Lib.hid s1
  have H3 := Lib.hid fun w' => right_any l w' hl
  clear s1 hm
  go_enter Tryz.func51, Tryz.ntmps51
  go_wp2_with fail
  refine H1.out.mono ?_
  rintro e w1 ⟨rfl, hb, hz, hcells⟩
  have J1 := Lib.hid hb
  have HC := Lib.hid hcells
  clear hb hcells
  go_wp2_with fail
  refine (containsFunc_bad w.heap.size _ (De.segs 47 l) w1 HC.out hz (Nat.le_refl _) (fun p hp => by have := S1.out p hp; omega) (by omega)).mono ?_
  have hany : ((De.segs 47 l).any fun p => p.isEmpty || De.has [46, 59, 91] p) = (De.segs 47 l).any De.bad := rfl
  rw [hany] at hcls
  clear hany HC
  cases hx : (De.segs 47 l).any De.bad
  · rw [hx] at hcls
    clear hx
    rintro e w2 ⟨rfl, hb⟩
    have J2 := Lib.hid (Below.after' J1.out hb (Nat.le_refl _))
    clear hb
    go_wp2_with fail
    refine (H3.out _).mono ?_
    rintro e w3 ⟨rfl, hb⟩
    have J3 := Lib.hid (Below.after' J2.out hb (Nat.le_refl _))
    clear hb
    go_wp2
    go_ret
    exact ⟨ret_bool (by rw [hcls.out]; simp), J3.out⟩
  · rw [hx] at hcls
    clear hx
    rintro e w2 ⟨rfl, hb⟩
    have J2 := Lib.hid (Below.after' J1.out hb (Nat.le_refl _))
    clear hb
    go_wp2
    go_ret
    exact ⟨ret_bool (by rw [hcls.out]; simp), J2.out⟩

/-- Does a part begin at place i? -/
def De.begins (l : List UInt8) (i : Nat) : Bool := decide (i = 0) || decide (l.getD (i - 1) 0 = 47)
theorem De.fine_hit {l : List UInt8} {i : Nat} {c : UInt8} (hc : l[i]? = some c) (b : Bool) : De.fine b (l.drop i) = if c = 47 then !b && De.fine true (l.drop (i + 1)) else De.fine false (l.drop (i + 1)) := by
  obtain ⟨h, rfl⟩ := List.getElem?_eq_some_iff.1 hc
  rw [List.drop_eq_getElem_cons h]
  rfl
theorem De.begins_succ {l : List UInt8} {i : Nat} {c : UInt8} (hc : l[i]? = some c) : De.begins l (i + 1) = decide (c = 47) := by
  unfold De.begins
  rw [Nat.add_sub_cancel, getD_of hc]
  simp
/-- What the reference's loop keeps. -/
def RC (l : List UInt8) (i : Nat) : Prop := (i ≤ l.length → De.fine true l = De.fine (De.begins l i) (l.drop i)) ∧ (i = l.length + 1 → De.fine true l = true)
theorem RC.zero (l : List UInt8) : RC l 0 := ⟨fun _ => rfl, fun h => by omega⟩
theorem RC.succ {l : List UInt8} {i : Nat} (h : RC l i) (hi : i ≤ l.length) (hn : ¬ (De.begins l i = true ∧ (i = l.length ∨ l.getD i 0 = 47))) : RC l (i + 1) := by
  refine ⟨fun h2 => ?_, fun h2 => ?_⟩
  · obtain ⟨c, hc⟩ : ∃ c, l[i]? = some c := ⟨_, List.getElem?_eq_getElem h2⟩
    rw [h.1 hi, De.fine_hit hc, De.begins_succ hc]
    rw [getD_of hc] at hn
    by_cases h47 : c = 47
    · rw [if_pos h47, decide_eq_true h47]
      have : De.begins l i = false := by rw [Bool.eq_false_iff]; exact fun hb => hn ⟨hb, .inr h47⟩
      rw [this]; rfl
    · rw [if_neg h47, decide_eq_false h47]
  · have e : i = l.length := by omega
    have : De.begins l i = false := by rw [Bool.eq_false_iff]; exact fun hb => hn ⟨hb, .inl e⟩
    rw [h.1 hi, this, List.drop_eq_nil_of_le (by omega)]
    rfl
theorem RC.stop {l : List UInt8} {i : Nat} (h : RC l i) (hi : i ≤ l.length) (hb : De.begins l i = true) (he : i = l.length ∨ l.getD i 0 = 47) : De.fine true l = false := by
  rw [h.1 hi, hb]
  by_cases e : i = l.length
  · rw [List.drop_eq_nil_of_le (by omega)]; rfl
  · obtain ⟨c, hc⟩ : ∃ c, l[i]? = some c := ⟨_, List.getElem?_eq_getElem (by omega)⟩
    rw [De.fine_hit hc]
    rw [getD_of hc] at he
    rw [if_pos (he.resolve_left e)]; rfl

end Go.Proofs.YtibogpidnnodnaaGreatDoor

/- check's small questions. -/
namespace Go.Proofs.YtibogpidnnodnaaGreatDoor
open Go.RowKit

/-- A number that has not two bytes. -/
def Ck.big (n : Int) : Bool := decide (n < 0) || decide (65535 < n)
theorem small1_any (n : Int) (w : World) : Calls Tryz.prog 50 #[.int .i64 n] w fun e w' => e = .returned (.bool (Ck.big n)) ∧ Below w.heap.size w w' := by
  unfold Ck.big
  cases h : decide (n < 0) with
  | true =>
    go_enter Tryz.func50, Tryz.ntmps50
    go_wp2_with fail
    go_ret
    exact ⟨rfl, Below.refl _ _⟩
  | false =>
    go_enter Tryz.func50, Tryz.ntmps50
    go_wp2_with fail
    go_ret
    exact ⟨rfl, Below.refl _ _⟩
set_option maxRecDepth 100000 in
theorem small_any (A : Option Addr) (c : Nat) (xs : List Int) (w : World) (ha : Ints w A c xs) (hn : xs.length ≤ 1000) :
    Calls Tryz.prog 19 #[.slice A xs.length c] w fun e w' => e = .returned (.bool (!xs.any Ck.big)) ∧ Below w.heap.size w w' := by
  have H1 := Lib.hid (conFI_any 50 #[] Ck.big (fun _ _ => by go_simp) A c xs w ha (by omega) (fun x _ w' _ => small1_any x w'))
  clear ha hn
  go_enter Tryz.func19, Tryz.ntmps19
  go_wp2_with fail
  refine H1.out.mono ?_
  rintro e w1 ⟨rfl, hb⟩
  have K := Lib.hid hb
  clear hb H1
  go_wp2_with fail
  go_ret
  exact ⟨rfl, K.out⟩
set_option maxRecDepth 100000 in
theorem chkClass_any (l : List UInt8) (w : World) (hl : l.length ≤ 1000000000) (hm : MaxP w) :
    Calls Tryz.prog 20 #[.string (bs l)] w fun e w' => e = .returned (.bool (decide (l.length ≤ 65535) && De.cls l)) ∧ Below w.heap.size w w' := by
  have H1 := Lib.hid (class_any l w hl hm)
  have hz := bs_size l
  clear hm
  by_cases h : l.length ≤ 65535
  · have h1 : decide (((bs l).size : Int) ≤ 65535) = true := decide_eq_true (by omega)
    have HD := Lib.hid (decide_eq_true h)
    clear hz h
    go_enter Tryz.func20, Tryz.ntmps20
    go_wp2_with fail
    refine H1.out.mono ?_
    rintro e w1 ⟨rfl, hb⟩
    have K := Lib.hid hb
    clear hb H1
    go_wp2_with fail
    go_ret
    exact ⟨by rw [HD.out]; rfl, K.out⟩
  · have h1 : decide (((bs l).size : Int) ≤ 65535) = false := decide_eq_false (by omega)
    have HD := Lib.hid (decide_eq_false h)
    clear hz h
    go_enter Tryz.func20, Tryz.ntmps20
    go_wp2_with fail
    go_ret
    exact ⟨by rw [HD.out]; rfl, Below.refl _ _⟩
set_option maxRecDepth 100000 in
theorem text_any (l : List UInt8) (w : World) (hl : l.length ≤ 1000000000) :
    Calls Tryz.prog 10 #[.string (bs l)] w fun e w' => e = .returned (.bool (decide (l.length ≤ 65535) && Ut.right l)) ∧ Below w.heap.size w w' := by
  have H1 := Lib.hid (right_any l w hl)
  have hz := bs_size l
  by_cases h : l.length ≤ 65535
  · have h1 : decide (((bs l).size : Int) ≤ 65535) = true := decide_eq_true (by omega)
    have HD := Lib.hid (decide_eq_true h)
    clear hz h
    go_enter Tryz.func10, Tryz.ntmps10
    go_wp2_with fail
    refine H1.out.mono ?_
    rintro e w1 ⟨rfl, hb⟩
    have K := Lib.hid hb
    clear hb H1
    go_wp2_with fail
    go_ret
    exact ⟨by rw [HD.out]; rfl, K.out⟩
  · have h1 : decide (((bs l).size : Int) ≤ 65535) = false := decide_eq_false (by omega)
    have HD := Lib.hid (decide_eq_false h)
    clear hz h
    go_enter Tryz.func10, Tryz.ntmps10
    go_wp2_with fail
    go_ret
    exact ⟨by rw [HD.out]; rfl, Below.refl _ _⟩
set_option maxRecDepth 100000 in
theorem orF_any (l : List UInt8) (f : Nat) (cap : Array Value) (p : List UInt8 → Bool) (eg : ∀ args x, (callFunc f args).run Tryz.prog x = .ok (.enter f args) x) (w : World)
    (hp : Calls Tryz.prog f (#[.string (bs l)] ++ cap) w fun e w' => e = .returned (.bool (p l)) ∧ Below w.heap.size w w') :
    Calls Tryz.prog 21 #[.string (bs l), .func (.func f) #[] cap] w fun e w' => e = .returned (.bool (l.isEmpty || p l)) ∧ Below w.heap.size w w' := by
  have H1 := Lib.hid hp
  clear hp
  by_cases h : l = []
  · have hz : (bs l).toList = [] := by rw [h]; exact bs_empty_true
    have HD := Lib.hid (show l.isEmpty = true by rw [h]; rfl)
    clear h
    go_enter Tryz.func21, Tryz.ntmps21
    go_wp2_with fail
    go_ret
    exact ⟨by rw [HD.out]; rfl, Below.refl _ _⟩
  · have hz := bs_empty_false h
    have HD := Lib.hid (show l.isEmpty = false by cases l with | nil => exact absurd rfl h | cons _ _ => rfl)
    clear h
    go_enter Tryz.func21, Tryz.ntmps21
    go_wp2_with fail
    refine H1.out.mono ?_
    rintro e w1 ⟨rfl, hb⟩
    have K := Lib.hid hb
    clear hb H1
    go_wp2_with fail
    go_ret
    exact ⟨by rw [HD.out]; rfl, K.out⟩
set_option maxRecDepth 100000 in
theorem all1_any (l : List UInt8) (g : Nat) (f : Nat) (cap : Array Value) (p : List UInt8 → Bool) (eg : ∀ args x, (callFunc f args).run Tryz.prog x = .ok (.enter f args) x) (w : World)
    (hg : w.cell? ⟨g, 0, none⟩ = some (.func (.func f) #[] cap))
    (hp : Calls Tryz.prog f (#[.string (bs l)] ++ cap) w fun e w' => e = .returned (.bool (p l)) ∧ Below w.heap.size w w') :
    Calls Tryz.prog 53 #[.string (bs l), .pointer (some ⟨g, 0, none⟩)] w fun e w' => e = .returned (.bool (!p l)) ∧ Below w.heap.size w w' := by
  have H1 := Lib.hid hp
  clear hp
  go_enter Tryz.func53, Tryz.ntmps53
  go_wp2_with fail
  refine H1.out.mono ?_
  rintro e w1 ⟨rfl, hb⟩
  have K := Lib.hid hb
  clear hb H1
  go_wp2_with fail
  go_ret
  exact ⟨rfl, K.out⟩
set_option maxRecDepth 100000 in
theorem all_any (A : Option Addr) (c : Nat) (xs : List (List UInt8)) (f : Nat) (cap : Array Value) (p : List UInt8 → Bool) (eg : ∀ args x, (callFunc f args).run Tryz.prog x = .ok (.enter f args) x) (w : World) (ha : Txt w A c xs) (hn : xs.length ≤ 1000000000)
    (hp : ∀ l ∈ xs, ∀ w', Below w.heap.size w w' → Calls Tryz.prog f (#[.string (bs l)] ++ cap) w' fun e w'' => e = .returned (.bool (p l)) ∧ Below w'.heap.size w' w'') :
    Calls Tryz.prog 22 #[.slice A xs.length c, .func (.func f) #[] cap] w fun e w' => e = .returned (.bool (xs.all p)) ∧ Below w.heap.size w w' := by
  have k1 := (Below.refl w.heap.size w).alloc (Nat.le_refl _) (.cells #[.func (.func f) #[] cap] 47)
  have hE := heap_alloc_new w (.cells #[.func (.func f) #[] cap] 47)
  have hg : (w.alloc (.cells #[.func (.func f) #[] cap] 47)).cell? ⟨w.heap.size, 0, none⟩ = some (.func (.func f) #[] cap) := by rw [Lib.cell_of_heap hE]; rfl
  have hz := (Array.getElem?_eq_some_iff.1 hE).1
  have H1 := Lib.hid (conFS_any 53 #[.pointer (some ⟨w.heap.size, 0, none⟩)] (fun l => !p l) (fun _ _ => by go_simp) A c xs (w.alloc (.cells #[.func (.func f) #[] cap] 47)) (ha.grow k1) hn (fun x hx w' hw' => all1_any x w.heap.size f cap p eg w' (by rw [World.cell?_of_block (hw'.block _ hz)]; exact hg) (hp x hx w' (k1.trans (hw'.mono k1.size)))))
  have K1 := Lib.hid k1
  have HA := Lib.hid (show (!xs.any fun l => !p l) = xs.all p by rw [List.not_any_eq_all_not]; simp)
  clear ha hp hE hg hz k1
  go_enter Tryz.func22, Tryz.ntmps22
  go_upto_region 1 with fail
  generalize w.alloc (.cells #[.func (.func f) #[] cap] 47) = W at H1 K1 ⊢
  go_wp2_with fail
  refine H1.out.mono ?_
  rintro e w1 ⟨rfl, hb⟩
  have K := Lib.hid (K1.out.trans (hb.mono K1.out.size))
  clear hb H1
  go_wp2_with fail
  go_ret
  exact ⟨by rw [← HA.out]; rfl, K.out⟩
end Go.Proofs.YtibogpidnnodnaaGreatDoor

/- Values of a pool, what they need, and their order: plain law, no program. -/
namespace Go.Proofs.YtibogpidnnodnaaGreatDoor

/-! ### Orders -/
structure Lin {α : Type} (lt : α → α → Prop) : Prop where
  irrefl : ∀ a, ¬ lt a a
  trans : ∀ a b c, lt a b → lt b c → lt a c
  tri : ∀ a b, lt a b ∨ a = b ∨ lt b a
theorem Lin.ne {α : Type} {lt : α → α → Prop} (L : Lin lt) {a b : α} (h : lt a b) : a ≠ b := fun e => L.irrefl b (e ▸ h)
theorem Lin.asymm {α : Type} {lt : α → α → Prop} (L : Lin lt) {a b : α} (h : lt a b) : ¬ lt b a := fun h2 => L.irrefl a (L.trans _ _ _ h h2)
def lexL {α β : Type} (l1 : α → α → Prop) (l2 : β → β → Prop) (p q : α × β) : Prop := l1 p.1 q.1 ∨ (p.1 = q.1 ∧ l2 p.2 q.2)
theorem lexL_lin {α β : Type} {l1 : α → α → Prop} {l2 : β → β → Prop} (A : Lin l1) (B : Lin l2) : Lin (lexL l1 l2) where
  irrefl a h := by
    rcases h with h | ⟨_, h⟩
    · exact A.irrefl _ h
    · exact B.irrefl _ h
  trans a b c h1 h2 := by
    rcases h1 with h1 | ⟨e1, h1⟩
    · rcases h2 with h2 | ⟨e2, _⟩
      · exact .inl (A.trans _ _ _ h1 h2)
      · exact .inl (e2 ▸ h1)
    · rcases h2 with h2 | ⟨e2, h2⟩
      · exact .inl (e1 ▸ h2)
      · exact .inr ⟨e1.trans e2, B.trans _ _ _ h1 h2⟩
  tri a b := by
    rcases A.tri a.1 b.1 with h | h | h
    · exact .inl (.inl h)
    · rcases B.tri a.2 b.2 with h' | h' | h'
      · exact .inl (.inr ⟨h, h'⟩)
      · exact .inr (.inl (Prod.ext h h'))
      · exact .inr (.inr (.inr ⟨h.symm, h'⟩))
    · exact .inr (.inr (.inl h))
theorem intL : Lin (fun a b : Int => a < b) := ⟨fun a h => by omega, fun a b c h1 h2 => by omega, fun a b => by omega⟩
theorem natL : Lin (fun a b : Nat => a < b) := ⟨fun a h => by omega, fun a b c h1 h2 => by omega, fun a b => by omega⟩
theorem txtL : Lin (fun a b : List UInt8 => a < b) where
  irrefl a := List.not_lt.2 (List.le_refl a)
  trans a b c h1 h2 := List.lt_trans h1 h2
  tri a b := by
    by_cases h1 : a < b
    · exact .inl h1
    · by_cases h2 : b < a
      · exact .inr (.inr h2)
      · exact .inr (.inl (List.le_antisymm (List.not_lt.1 h2) (List.not_lt.1 h1)))

/-! ### Values -/
structure Pv where
  tag : Int
  text : List UInt8
  bits : Nat
  cls : List UInt8
  name : List UInt8
  desc : List UInt8
def Pv.key (v : Pv) : Int × List UInt8 × Nat × List UInt8 × List UInt8 × List UInt8 := (v.tag, v.text, v.bits, v.cls, v.name, v.desc)
theorem Pv.key_inj {a b : Pv} (h : a.key = b.key) : a = b := by
  cases a; cases b
  simp only [Pv.key, Prod.mk.injEq] at h
  obtain ⟨rfl, rfl, rfl, rfl, rfl, rfl⟩ := h
  rfl
instance : DecidableEq Pv := fun a b => if h : a.key = b.key then isTrue (Pv.key_inj h) else isFalse (fun e => h (e ▸ rfl))
def Pv.zero : Pv := ⟨0, [], 0, [], [], []⟩
def Pv.ofText (s : List UInt8) : Pv := ⟨1, s, 0, [], [], []⟩
def Pv.ofCls (s : List UInt8) : Pv := ⟨7, s, 0, [], [], []⟩
def Pv.ofPair (n d : List UInt8) : Pv := ⟨12, [], 0, [], n, d⟩
def Pv.wide (v : Pv) : Bool := v.tag == 5 || v.tag == 6
def Pv.needs (v : Pv) : List Pv :=
  if v.tag = 7 ∨ v.tag = 8 then [Pv.ofText v.text]
  else if v.tag = 12 then [Pv.ofText v.name, Pv.ofText v.desc]
  else if v.tag = 9 ∨ v.tag = 10 ∨ v.tag = 11 then [Pv.ofCls v.cls, Pv.ofPair v.name v.desc]
  else []
def Pv.lt (a b : Pv) : Prop := lexL (fun a b : Int => a < b) (lexL (fun a b : List UInt8 => a < b) (lexL (fun a b : Nat => a < b) (lexL (fun a b : List UInt8 => a < b) (lexL (fun a b : List UInt8 => a < b) (fun a b : List UInt8 => a < b))))) a.key b.key
theorem Pv.lin : Lin Pv.lt := by
  have L := lexL_lin intL (lexL_lin txtL (lexL_lin natL (lexL_lin txtL (lexL_lin txtL txtL))))
  exact ⟨fun a => L.irrefl _, fun a b c => L.trans _ _ _, fun a b => (L.tri a.key b.key).imp_right (Or.imp_left Pv.key_inj)⟩
noncomputable instance : DecidableRel Pv.lt := fun _ _ => Classical.propDecidable _

/-! ### What is wrong with a value: 0: nothing -/
def Pv.chk (ok kind range : Int) (v : Pv) : Int :=
  if v.tag = 1 ∨ v.tag = 7 ∨ v.tag = 8 then (if v.bits = 0 ∧ v.cls = [] ∧ v.name = [] ∧ v.desc = [] then ok else kind)
  else if v.tag = 3 ∨ v.tag = 4 ∨ v.tag = 5 ∨ v.tag = 6 then (if v.text = [] ∧ v.cls = [] ∧ v.name = [] ∧ v.desc = [] then (if (v.tag = 3 ∨ v.tag = 4) ∧ 4294967296 ≤ v.bits then range else ok) else kind)
  else if v.tag = 12 then (if v.text = [] ∧ v.bits = 0 ∧ v.cls = [] then ok else kind)
  else if v.tag = 9 ∨ v.tag = 10 ∨ v.tag = 11 then (if v.text = [] ∧ v.bits = 0 then ok else kind)
  else kind

/-! ### Rows in order, each once -/
section
variable {α : Type} [DecidableEq α] {lt : α → α → Prop} [DecidableRel lt]
def putO (lt : α → α → Prop) [DecidableRel lt] (l : List α) (v : α) : List α :=
  if v ∈ l then l else l.takeWhile (fun x => decide (lt x v)) ++ v :: l.dropWhile (fun x => decide (lt x v))
theorem putO_mem (l : List α) (v x : α) : x ∈ putO lt l v ↔ x ∈ l ∨ x = v := by
  unfold putO
  split
  · rename_i h
    constructor
    · exact .inl
    · rintro (h1 | rfl)
      · exact h1
      · exact h
  · have : x ∈ l ↔ x ∈ l.takeWhile (fun x => decide (lt x v)) ∨ x ∈ l.dropWhile (fun x => decide (lt x v)) := by
      rw [← List.mem_append, List.takeWhile_append_dropWhile]
    rw [this, List.mem_append, List.mem_cons]
    constructor
    · rintro (h | rfl | h)
      · exact .inl (.inl h)
      · exact .inr rfl
      · exact .inl (.inr h)
    · rintro ((h | h) | rfl)
      · exact .inl h
      · exact .inr (.inr h)
      · exact .inr (.inl rfl)
omit [DecidableEq α] in
theorem drop_above (L : Lin lt) {v : α} : ∀ {l : List α}, l.Pairwise lt → v ∉ l → ∀ x ∈ l.dropWhile (fun x => decide (lt x v)), lt v x
  | [], _, _, x, h => by simp at h
  | y :: l, hp, hv, x, h => by
    rw [List.dropWhile_cons] at h
    by_cases hy : lt y v
    · rw [if_pos (by simpa using hy)] at h
      exact drop_above L (List.pairwise_cons.1 hp).2 (fun e => hv (List.mem_cons_of_mem _ e)) x h
    · rw [if_neg (by simpa using hy)] at h
      have hvy : lt v y := by
        rcases L.tri y v with h1 | h1 | h1
        · exact absurd h1 hy
        · exact absurd (h1 ▸ List.mem_cons_self ..) hv
        · exact h1
      rcases List.mem_cons.1 h with rfl | h
      · exact hvy
      · exact L.trans _ _ _ hvy ((List.pairwise_cons.1 hp).1 x h)
omit [DecidableEq α] in
theorem mem_takeWhile_sat {p : α → Bool} : ∀ {l : List α} {x : α}, x ∈ l.takeWhile p → p x = true
  | [], _, h => by simp at h
  | y :: l, x, h => by
    rw [List.takeWhile_cons] at h
    split at h
    · rcases List.mem_cons.1 h with rfl | h
      · assumption
      · exact mem_takeWhile_sat h
    · simp at h
theorem putO_rises (L : Lin lt) {l : List α} (h : l.Pairwise lt) (v : α) : (putO lt l v).Pairwise lt := by
  unfold putO
  split
  · exact h
  · rename_i hv
    have hd := drop_above L h hv
    have ht : ∀ x ∈ l.takeWhile (fun x => decide (lt x v)), lt x v := fun x hx => by simpa using mem_takeWhile_sat hx
    have hp : (l.takeWhile (fun x => decide (lt x v)) ++ l.dropWhile (fun x => decide (lt x v))).Pairwise lt := by rw [List.takeWhile_append_dropWhile]; exact h
    obtain ⟨p1, p2, p3⟩ := List.pairwise_append.1 hp
    refine List.pairwise_append.2 ⟨p1, List.pairwise_cons.2 ⟨hd, p2⟩, fun a ha b hb => ?_⟩
    rcases List.mem_cons.1 hb with rfl | hb
    · exact ht a ha
    · exact p3 a ha b hb
def sd (lt : α → α → Prop) [DecidableRel lt] (l : List α) : List α := l.foldl (putO lt) []
theorem sd_aux (L : Lin lt) : ∀ (l acc : List α), acc.Pairwise lt → (l.foldl (putO lt) acc).Pairwise lt ∧ ∀ x, x ∈ l.foldl (putO lt) acc ↔ x ∈ acc ∨ x ∈ l
  | [], acc, h => ⟨h, fun x => by simp⟩
  | v :: l, acc, h => by
    obtain ⟨h1, h2⟩ := sd_aux L l (putO lt acc v) (putO_rises L h v)
    refine ⟨h1, fun x => ?_⟩
    rw [List.foldl_cons, h2, putO_mem, List.mem_cons]
    constructor
    · rintro ((h | h) | h)
      · exact .inl h
      · exact .inr (.inl h)
      · exact .inr (.inr h)
    · rintro (h | h | h)
      · exact .inl (.inl h)
      · exact .inl (.inr h)
      · exact .inr h
theorem sd_rises (L : Lin lt) (l : List α) : (sd lt l).Pairwise lt := (sd_aux L l [] List.Pairwise.nil).1
theorem sd_mem (L : Lin lt) (l : List α) (x : α) : x ∈ sd lt l ↔ x ∈ l := ((sd_aux L l [] List.Pairwise.nil).2 x).trans (by simp)
omit [DecidableRel lt] in
omit [DecidableEq α] in
theorem rises_uniq (L : Lin lt) : ∀ {a b : List α}, a.Pairwise lt → b.Pairwise lt → (∀ x, x ∈ a ↔ x ∈ b) → a = b
  | [], b, _, _, h => by
    cases b with
    | nil => rfl
    | cons y b => exact absurd ((h y).2 (List.mem_cons_self ..)) (by simp)
  | x :: a, [], _, _, h => absurd ((h x).1 (List.mem_cons_self ..)) (by simp)
  | x :: a, y :: b, ha, hb, h => by
    obtain ⟨a1, a2⟩ := List.pairwise_cons.1 ha
    obtain ⟨b1, b2⟩ := List.pairwise_cons.1 hb
    have e : x = y := by
      rcases List.mem_cons.1 ((h x).1 (List.mem_cons_self ..)) with e | hx
      · exact e
      · rcases List.mem_cons.1 ((h y).2 (List.mem_cons_self ..)) with e | hy
        · exact e.symm
        · exact absurd (b1 x hx) (L.asymm (a1 y hy))
    subst e
    rw [rises_uniq L a2 b2 fun z => ?_]
    constructor
    · intro hz
      rcases List.mem_cons.1 ((h z).1 (List.mem_cons_of_mem _ hz)) with rfl | h'
      · exact absurd (a1 _ hz) (L.irrefl _)
      · exact h'
    · intro hz
      rcases List.mem_cons.1 ((h z).2 (List.mem_cons_of_mem _ hz)) with rfl | h'
      · exact absurd (b1 _ hz) (L.irrefl _)
      · exact h'
omit [DecidableRel lt] in
omit [DecidableEq α] in
theorem rises_nodup (L : Lin lt) {l : List α} (h : l.Pairwise lt) : l.Nodup := h.imp fun h => L.ne h
end

/-! ### All that is needed -/
def Pv.cl (v : Pv) : List Pv := v :: (v.needs ++ v.needs.flatMap Pv.needs)
def clAll (l : List Pv) : List Pv := l.flatMap Pv.cl
theorem Pv.needs_text (s : List UInt8) : (Pv.ofText s).needs = [] := by simp [Pv.needs, Pv.ofText]
theorem Pv.needs_cls (s : List UInt8) : (Pv.ofCls s).needs = [Pv.ofText s] := by simp [Pv.needs, Pv.ofCls]
theorem Pv.needs_pair (n d : List UInt8) : (Pv.ofPair n d).needs = [Pv.ofText n, Pv.ofText d] := by simp [Pv.needs, Pv.ofPair]
theorem Pv.needs3 (v a b : Pv) (h1 : a ∈ v.needs) (h2 : b ∈ a.needs) : b.needs = [] := by
  unfold Pv.needs at h1
  split at h1
  · simp only [List.mem_singleton] at h1
    subst h1
    simp [Pv.needs_text] at h2
  · split at h1
    · simp only [List.mem_cons, List.not_mem_nil, or_false] at h1
      rcases h1 with rfl | rfl <;> simp [Pv.needs_text] at h2
    · split at h1
      · simp only [List.mem_cons, List.not_mem_nil, or_false] at h1
        rcases h1 with rfl | rfl
        · rw [Pv.needs_cls] at h2
          simp only [List.mem_singleton] at h2
          subst h2
          exact Pv.needs_text _
        · rw [Pv.needs_pair] at h2
          simp only [List.mem_cons, List.not_mem_nil, or_false] at h2
          rcases h2 with rfl | rfl <;> exact Pv.needs_text _
      · simp at h1
theorem mem_cl {v x : Pv} : x ∈ v.cl ↔ x = v ∨ x ∈ v.needs ∨ ∃ y ∈ v.needs, x ∈ y.needs := by
  simp [Pv.cl]
theorem cl_closed {v x y : Pv} (hx : x ∈ v.cl) (hy : y ∈ x.needs) : y ∈ v.cl := by
  rw [mem_cl] at hx ⊢
  rcases hx with rfl | h | ⟨z, h1, h2⟩
  · exact .inr (.inl hy)
  · exact .inr (.inr ⟨x, h, hy⟩)
  · rw [Pv.needs3 _ _ _ h1 h2] at hy
    simp at hy
theorem clAll_closed {l : List Pv} {x y : Pv} (hx : x ∈ clAll l) (hy : y ∈ x.needs) : y ∈ clAll l := by
  obtain ⟨v, hv, h⟩ := List.mem_flatMap.1 hx
  exact List.mem_flatMap.2 ⟨v, hv, cl_closed h hy⟩
theorem clAll_has {l : List Pv} {x : Pv} (hx : x ∈ l) : x ∈ clAll l := List.mem_flatMap.2 ⟨x, hx, by simp [Pv.cl]⟩
/-- The least set that has these and what its values need. -/
theorem clAll_least {l : List Pv} {S : Pv → Prop} (h0 : ∀ x ∈ l, S x) (hs : ∀ x, S x → ∀ y ∈ x.needs, S y) {x : Pv} (hx : x ∈ clAll l) : S x := by
  obtain ⟨v, hv, h⟩ := List.mem_flatMap.1 hx
  rw [mem_cl] at h
  rcases h with rfl | h | ⟨z, h1, h2⟩
  · exact h0 _ hv
  · exact hs _ (h0 _ hv) _ h
  · exact hs _ (hs _ (h0 _ hv) _ h1) _ h2
/-- How many steps a value takes. -/
def Pv.wt (v : Pv) : Nat := v.cl.length
theorem Pv.wt_needs (v : Pv) : (v.needs.map Pv.wt).sum < v.wt := by
  have h : ∀ l : List Pv, (∀ a ∈ l, ∀ b ∈ a.needs, b.needs = []) → (l.map Pv.wt).sum = l.length + (l.flatMap Pv.needs).length := fun l => by
    induction l with
    | nil => intro _; rfl
    | cons a l ih =>
      intro h
      have e : a.needs.flatMap Pv.needs = [] := List.flatMap_eq_nil_iff.2 (h a (List.mem_cons_self ..))
      rw [List.map_cons, List.sum_cons, ih fun a ha => h a (List.mem_cons_of_mem _ ha)]
      simp only [Pv.wt, Pv.cl, e, List.append_nil, List.length_cons, List.flatMap_cons, List.length_append]
      omega
  rw [h _ fun a ha b hb => Pv.needs3 v a b ha hb]
  simp only [Pv.wt, Pv.cl, List.length_cons, List.length_append]
  omega
theorem Pv.needs_len (v : Pv) : v.needs.length ≤ 2 := by
  unfold Pv.needs
  split
  · simp
  · split
    · simp
    · split <;> simp
theorem Pv.wt_le (v : Pv) : v.wt ≤ 7 := by
  unfold Pv.wt Pv.cl
  have h1 := v.needs_len
  have h2 : (v.needs.flatMap Pv.needs).length ≤ v.needs.length * 2 := by
    generalize v.needs = l
    induction l with
    | nil => simp
    | cons a l ih =>
      have := a.needs_len
      simp only [List.flatMap_cons, List.length_append, List.length_cons]
      omega
  simp only [List.length_cons, List.length_append]
  omega
/-! ### The pool -/
def Pv.room (v : Pv) : Nat := if v.wide then 2 else 1
def Pv.slot (v : Pv) : List Pv := if v.wide then [v, v] else [v]
def Pv.slots (l : List Pv) : List Pv := Pv.zero :: l.flatMap Pv.slot
noncomputable def Pv.rest (low all : List Pv) : List Pv := sd Pv.lt ((clAll (low ++ all)).filter fun x => decide (x ∉ low))
noncomputable def Pv.ord (low all : List Pv) : List Pv := sd Pv.lt low ++ Pv.rest low all
theorem Pv.rest_mem (low all : List Pv) (x : Pv) : x ∈ Pv.rest low all ↔ x ∈ clAll (low ++ all) ∧ x ∉ low := by
  unfold Pv.rest
  rw [sd_mem Pv.lin, List.mem_filter]
  simp
theorem Pv.ord_mem (low all : List Pv) (x : Pv) : x ∈ Pv.ord low all ↔ x ∈ clAll (low ++ all) := by
  unfold Pv.ord
  rw [List.mem_append, sd_mem Pv.lin, Pv.rest_mem]
  constructor
  · rintro (h | h)
    · exact clAll_has (by simp [h])
    · exact h.1
  · intro h
    by_cases hx : x ∈ low
    · exact .inl hx
    · exact .inr ⟨h, hx⟩
theorem Pv.ord_nodup (low all : List Pv) : (Pv.ord low all).Nodup := by
  unfold Pv.ord
  refine List.nodup_append.2 ⟨rises_nodup Pv.lin (sd_rises Pv.lin _), rises_nodup Pv.lin (sd_rises Pv.lin _), fun a ha b hb e => ?_⟩
  subst e
  exact ((Pv.rest_mem _ _ _).1 hb).2 ((sd_mem Pv.lin _ _).1 ha)
/-- What is told of a value's number, from number n on. -/
def Pv.numFrom : Nat → List Pv → Pv → Nat
  | _, [], _ => 0
  | n, x :: xs, v => if x = v then n else Pv.numFrom (n + x.room) xs v
def Pv.num (l : List Pv) (v : Pv) : Nat := Pv.numFrom 1 l v
def Pv.fst : Nat → List Pv → Pv → Nat
  | _, [], _ => 0
  | n, x :: xs, v => if x = v then n else Pv.fst (n + 1) xs v
theorem Pv.fst_slots (v : Pv) : ∀ (l : List Pv) (n : Nat), Pv.fst n (l.flatMap Pv.slot) v = Pv.numFrom n l v
  | [], _ => rfl
  | x :: l, n => by
    have ih := Pv.fst_slots v l
    rw [List.flatMap_cons]
    unfold Pv.slot Pv.numFrom Pv.room
    split
    · simp only [List.cons_append, List.nil_append, Pv.fst]
      split
      · rfl
      · rw [Nat.add_assoc]; exact ih _
    · simp only [List.cons_append, List.nil_append, Pv.fst]
      split
      · rfl
      · exact ih _
theorem Pv.slot_len (v : Pv) : v.slot.length = v.room := by unfold Pv.slot Pv.room; split <;> rfl
theorem Pv.slots_len (l : List Pv) : (Pv.slots l).length = 1 + (l.map Pv.room).sum := by
  unfold Pv.slots
  rw [List.length_cons, List.length_flatMap, Nat.add_comm]
  refine congrArg (fun l => 1 + List.sum l) (List.map_congr_left fun v _ => Pv.slot_len v)
theorem Pv.numFrom_none {v : Pv} : ∀ {l : List Pv} {n : Nat}, v ∉ l → Pv.numFrom n l v = 0
  | [], _, _ => rfl
  | x :: l, n, h => by
    unfold Pv.numFrom
    rw [if_neg (fun e : x = v => h (e ▸ List.mem_cons_self ..))]
    exact Pv.numFrom_none fun e => h (List.mem_cons_of_mem _ e)
theorem Pv.numFrom_app (v : Pv) : ∀ (a b : List Pv) (n : Nat), Pv.numFrom n (a ++ b) v = if v ∈ a then Pv.numFrom n a v else Pv.numFrom (n + (a.map Pv.room).sum) b v
  | [], b, n => by simp
  | x :: a, b, n => by
    have ih := Pv.numFrom_app v a b (n + x.room)
    rw [List.cons_append]
    by_cases h : x = v
    · subst h
      simp [Pv.numFrom]
    · have e : (v ∈ x :: a) ↔ v ∈ a := by simp [Ne.symm h]
      have e1 : Pv.numFrom n (x :: (a ++ b)) v = Pv.numFrom (n + x.room) (a ++ b) v := by rw [Pv.numFrom, if_neg h]
      have e2 : Pv.numFrom n (x :: a) v = Pv.numFrom (n + x.room) a v := by rw [Pv.numFrom, if_neg h]
      rw [e1, e2, ih]
      simp only [e, List.map_cons, List.sum_cons, Nat.add_assoc]

/-! ### Constants -/
structure Rw where
  tag : Int
  text : List UInt8
  bits : Nat
  a : Nat
  b : Nat
def Rw.zero : Rw := ⟨0, [], 0, 0, 0⟩
def Pv.rawOf (nm : Pv → Nat) (v : Pv) : Rw :=
  match v.needs with
  | [] => ⟨v.tag, v.text, v.bits, 0, 0⟩
  | [x] => ⟨v.tag, [], v.bits, nm x, 0⟩
  | x :: y :: _ => ⟨v.tag, [], v.bits, nm x, nm y⟩
def Pv.raw1 (nm : Pv → Nat) (v : Pv) : List Rw := if v.wide then [v.rawOf nm, Rw.zero] else [v.rawOf nm]
def Pv.raws (l : List Pv) : List Rw := Rw.zero :: l.flatMap (Pv.raw1 (Pv.num l))
/-- The document's. -/
def Pv.rawRef (nm : Pv → Nat) (v : Pv) : Rw := ⟨v.tag, if v.tag = 1 then v.text else [], v.bits, (v.needs[0]?.map nm).getD 0, (v.needs[1]?.map nm).getD 0⟩
def Pv.rawGo (nm : Pv → Nat) : Pv → Bool → Bool → List Pv → List Rw
  | _, _, _, [] => []
  | p, first, half, v :: vs =>
    (if (!first && v.wide && decide (v = p) && !half) = true then Rw.zero else v.rawRef nm) :: Pv.rawGo nm v false (!first && v.wide && decide (v = p) && !half) vs
theorem Pv.raw_same {ok kind range : Int} (hk : ok ≠ kind) (_hr : ok ≠ range) {v : Pv} (h : v.chk ok kind range = ok) (nm : Pv → Nat) : v.rawRef nm = v.rawOf nm := by
  unfold Pv.chk at h
  unfold Pv.rawRef Pv.rawOf Pv.needs
  split at h
  · rename_i h1
    rcases h1 with h1 | h1 | h1 <;> simp [h1]
  · split at h
    · rename_i h1
      split at h
      · rename_i h2
        rcases h1 with h1 | h1 | h1 | h1 <;> simp [h1, h2]
      · exact absurd h.symm hk
    · split at h
      · rename_i h1
        simp [h1]
      · split at h
        · rename_i h1
          rcases h1 with h1 | h1 | h1 <;> simp [h1]
        · exact absurd h.symm hk
theorem Pv.rawGo_same (nm : Pv → Nat) : ∀ (l : List Pv), l.Nodup → (∀ v ∈ l, v.rawRef nm = v.rawOf nm) → ∀ (p : Pv) (first half : Bool), first = true ∨ p ∉ l → Pv.rawGo nm p first half (l.flatMap Pv.slot) = l.flatMap (Pv.raw1 nm)
  | [], _, _, _, _, _, _ => rfl
  | v :: l, hn, hs, p, first, half, hp => by
    obtain ⟨n1, n2⟩ := List.nodup_cons.1 hn
    have e1 : (!first && v.wide && decide (v = p) && !half) = false := by
      rcases hp with rfl | hp
      · rfl
      · have : v ≠ p := fun e => hp (e ▸ List.mem_cons_self ..)
        simp [this]
    have ih := Pv.rawGo_same nm l n2 (fun x hx => hs x (List.mem_cons_of_mem _ hx)) v false
    rw [List.flatMap_cons, List.flatMap_cons]
    unfold Pv.slot Pv.raw1
    cases hw : v.wide
    · simp only [Bool.false_eq_true, if_false, List.cons_append, List.nil_append]
      unfold Pv.rawGo
      rw [e1]
      simp only [Bool.false_eq_true, if_false]
      rw [hs v (List.mem_cons_self ..)]
      exact congrArg _ (ih false (.inr n1))
    · simp only [if_true, List.cons_append, List.nil_append]
      unfold Pv.rawGo
      rw [e1]
      simp only [Bool.false_eq_true, if_false]
      rw [hs v (List.mem_cons_self ..)]
      refine congrArg _ ?_
      unfold Pv.rawGo
      rw [hw]
      simp only [Bool.not_false, Bool.and_true, decide_true, if_true]
      exact congrArg _ (ih true (.inr n1))
/-- The needs of a value that may be may be. -/
theorem Pv.chk_needs {ok kind range : Int} {v x : Pv} (hx : x ∈ v.needs) : x.chk ok kind range = ok := by
  unfold Pv.needs at hx
  split at hx
  · simp only [List.mem_singleton] at hx
    subst hx
    simp [Pv.chk, Pv.ofText]
  · split at hx
    · simp only [List.mem_cons, List.not_mem_nil, or_false] at hx
      rcases hx with rfl | rfl <;> simp [Pv.chk, Pv.ofText]
    · split at hx
      · simp only [List.mem_cons, List.not_mem_nil, or_false] at hx
        rcases hx with rfl | rfl <;> simp [Pv.chk, Pv.ofCls, Pv.ofPair]
      · simp at hx
theorem Pv.chk_cl {ok kind range : Int} {l : List Pv} (h : ∀ v ∈ l, v.chk ok kind range = ok) {x : Pv} (hx : x ∈ clAll l) : x.chk ok kind range = ok :=
  clAll_least (S := fun x => x.chk ok kind range = ok) h (fun _x _ _y hy => Pv.chk_needs hy) hx
end Go.Proofs.YtibogpidnnodnaaGreatDoor
