/- The walks of layer 17: members' and methods' names. -/
import Derived.Test.YtdjdgipebonnaaaDoorPlain
import Derived.Test.YtdjdgipebonnaaaDoorRef15Units
namespace Go.Proofs.YtdjdgipebonnaaaDoor
open Go.RowKit

theorem rright_any (l : List UInt8) (w : World) (hl : l.length ≤ 1000000000) :
    Calls Tryd.prog 27 #[.string (bs l)] w fun e w' => e = .returned (.bool (Ut.right l)) ∧ Below w.heap.size w w' := by
  have H := Lib.hid (runits_any l w hl)
  go_enter Tryd.func27, Tryd.ntmps27
  go_wp2_with fail
  refine H.out.mono ?_
  rintro e w1 ⟨v, rfl, hb, _⟩
  go_wp2
  go_ret
  exact ⟨rfl, hb⟩

theorem has_hit {l chars : List UInt8} {i k : Nat} {c : UInt8} (h1 : l[i]? = some c) (h2 : chars[k]? = some c) : De.has chars l = true :=
  List.any_eq_true.2 ⟨c, List.mem_of_getElem? h1, by rw [List.contains_iff_mem]; exact List.mem_of_getElem? h2⟩
theorem has_none {l chars : List UInt8} (h : Lib.NoAny l chars l.length) : De.has chars l = false := by
  rw [Bool.eq_false_iff]
  intro h2
  obtain ⟨c, hc, hcc⟩ := List.any_eq_true.1 h2
  obtain ⟨i, hi⟩ := List.getElem?_of_mem hc
  have := h i c (List.getElem?_eq_some_iff.1 hi).1 hi
  rw [this] at hcc
  cases hcc
/-- None of the first k signs is c. -/
def NoC (chars : List UInt8) (c : UInt8) (k : Nat) : Prop := ∀ (j : Nat) b, j < k → chars[j]? = some b → b ≠ c
theorem NoC.succ {chars : List UInt8} {c d : UInt8} {k : Nat} (h : NoC chars c k) (hd : chars[k]? = some d) (hne : d ≠ c) : NoC chars c (k + 1) := by
  intro j b hj hb
  by_cases e : j = k
  · subst e; rw [hd] at hb; cases hb; exact hne
  · exact h j b (by omega) hb
theorem NoC.full {chars : List UInt8} {c : UInt8} (h : NoC chars c chars.length) : chars.contains c = false := by
  rw [Bool.eq_false_iff]
  intro h2
  rw [List.contains_iff_mem] at h2
  obtain ⟨i, hi⟩ := List.getElem?_of_mem h2
  exact h i c (List.getElem?_eq_some_iff.1 hi).1 hi rfl

set_option maxHeartbeats 4000000 in
set_option maxRecDepth 100000 in
theorem without_any (l chars : List UInt8) (w : World) (hl : l.length ≤ 1000000000) (hc : chars.length ≤ 1000000) :
    Calls Tryd.prog 28 #[.string (bs l), .string (bs chars)] w fun e w' => e = .returned (.bool (!De.has chars l)) ∧ Below w.heap.size w w' := by
  have hzl := bs_size l
  have hzc := bs_size chars
  go_enter Tryd.func28, Tryd.ntmps28
  go_wp2_with fail
  go_loopw [5] (fun u wr => ∃ i : Nat, i ≤ l.length ∧ u = .int .i64 i ∧ Below w.heap.size w wr ∧ Lib.NoAny l chars i) (fun u _ => l.length - (intOf u).toNat)
  case atStart => exact ⟨0, Nat.zero_le _, rfl, Below.refl _ _, Lib.NoAny.zero _ _⟩
  case round =>
    obtain ⟨i, hil, rfl, hB, hno⟩ := hrel
    have HB := Lib.hid hB
    have HN := Lib.hid hno
    clear hB hno
    by_cases h1 : i < l.length
    · obtain ⟨c, hcl⟩ : ∃ c, l[i]? = some c := ⟨_, List.getElem?_eq_getElem h1⟩
      have ic := fun x => bs_index l i c hcl .i64 i rfl x
      have HC := Lib.hid hcl
      clear hcl
      obtain ⟨wo, rfl⟩ : ∃ wo : World, wo = wr := ⟨_, rfl⟩
      go_wp2_with fail
      go_loopw [6] (fun u wr => ∃ k : Nat, k ≤ chars.length ∧ u = .int .i64 k ∧ Below w.heap.size w wr ∧ NoC chars c k) (fun u _ => chars.length - (intOf u).toNat)
      case atStart => exact ⟨0, Nat.zero_le _, rfl, HB.out, fun j b hj => absurd hj (Nat.not_lt_zero _)⟩
      case round =>
        obtain ⟨k, hkl, rfl, hB, hno⟩ := hrel
        have HB2 := Lib.hid hB
        have HN2 := Lib.hid hno
        clear hB hno HB
        by_cases h2 : k < chars.length
        · obtain ⟨d, hdl⟩ : ∃ d, chars[k]? = some d := ⟨_, List.getElem?_eq_getElem h2⟩
          have id' := fun x => bs_index chars k d hdl .i64 k rfl x
          have HD := Lib.hid hdl
          clear hdl
          by_cases hcd : c = d
          · have hfin := Lib.hid (show (!De.has chars l) = false by rw [has_hit HC.out (by rw [hcd]; exact HD.out)]; rfl)
            have hq : ((c.toNat : Int) == (d.toNat : Int)) = true := by simp [hcd]
            clear hcd
            go_wp2_with fail
            refine wp_region_grow (by kernel_rfl) (by kernel_rfl) ?_
            repeat (go_big_quiet_step (fail))
            refine wpQuiet_nil ?_
            intro g1
            obtain ⟨w1, hb1⟩ := g1
            have HB3 := Lib.hid (Below.after' HB2.out hb1 (Nat.le_refl _))
            dsimp only
            clear hb1
            go_wp2
            go_ret
            exact ⟨ret_bool hfin.out.symm, HB3.out⟩
          · have hq : ((c.toNat : Int) == (d.toNat : Int)) = false := by
              rw [beq_eq_false_iff_ne]; intro h; exact hcd (UInt8.toNat_inj.1 (by omega))
            have HN3 := Lib.hid (HN2.out.succ HD.out (fun e => hcd e.symm))
            clear hcd
            go_wp2_with fail
            refine wp_region_grow (by kernel_rfl) (by kernel_rfl) ?_
            repeat (go_big_quiet_step (fail))
            refine wpQuiet_nil ?_
            intro g1
            obtain ⟨w1, hb1⟩ := g1
            have HB3 := Lib.hid (Below.after' HB2.out hb1 (Nat.le_refl _))
            dsimp only
            clear hb1
            go_wp2
            go_roundw
            case rel => exact ⟨k + 1, by omega, by go_num, HB3.out, HN3.out⟩
            case measure => simp [intOf]; omega
        · have ek : k = chars.length := by omega
          have HF := Lib.hid (show chars.contains c = false from NoC.full (ek ▸ HN2.out))
          clear ek
          go_wp2
          go_roundw
          case rel => exact ⟨i + 1, by omega, by go_num, HB2.out, HN.out.succ HC.out HF.out⟩
          case measure => simp [intOf]; omega
    · have ek : i = l.length := by omega
      have hfin := Lib.hid (show (!De.has chars l) = true by rw [has_none (ek ▸ HN.out)]; rfl)
      clear ek
      go_wp2
      go_ret
      exact ⟨ret_bool hfin.out.symm, HB.out⟩
end Go.Proofs.YtdjdgipebonnaaaDoor
