/- The walks of layer 28: which values are not too great; what values need. -/
import Derived.Test.YtekcfjfkbiciaaaVals
import Derived.Test.YtekcfjfkbiciaaaUnique
namespace Go.Proofs.Ytekcfjfkbiciaaa
open Go.RowKit

def Pv.small (v : Pv) : Bool := !decide (300 < v.text.length + v.cls.length + v.name.length + v.desc.length)
def Pv.few (l : List Pv) : Bool := l.all Pv.small && decide (l.length ≤ 60)
theorem all_take_snoc {α : Type} (p : α → Bool) {l : List α} {i : Nat} {x : α} (h : l[i]? = some x) : (l.take (i + 1)).all p = ((l.take i).all p && p x) := by
  obtain ⟨h1, rfl⟩ := List.getElem?_eq_some_iff.1 h
  rw [List.take_succ_eq_append_getElem h1, List.all_append]
  simp
theorem all_bad {α : Type} (p : α → Bool) {l : List α} {i : Nat} {x : α} (h : l[i]? = some x) (hp : p x = false) : l.all p = false := by
  rw [List.all_eq_false]
  exact ⟨x, List.mem_of_getElem? h, by rw [hp]; simp⟩
set_option maxHeartbeats 4000000 in
theorem few_any (A : Option Addr) (c : Nat) (l : List Pv) (w : World) (hx : Vals w A c l) (hn : l.length ≤ 140737488355328) (hf : ∀ v ∈ l, v.fits) :
    Calls Try.prog 5 #[.slice A l.length c] w fun e w' => e = .returned (.bool (Pv.few l)) ∧ Below w.heap.size w w' := by
  have HX := Lib.hid hx
  have HFT := Lib.hid hf
  clear hx hf
  go_enter Try.func5, Try.ntmps5
  go_wp2_with fail
  go_loopw [7] (fun u wr => ∃ i : Nat, i ≤ l.length ∧ u = .int .i64 i ∧ (l.take i).all Pv.small = true ∧ Below w.heap.size w wr) (fun u _ => l.length - (intOf u).toNat)
  case atStart => exact ⟨0, Nat.zero_le _, rfl, rfl, Below.refl _ _⟩
  case round =>
    obtain ⟨i, hil, rfl, hall, hB⟩ := hrel
    have HB := Lib.hid hB
    by_cases hi : i < l.length
    · obtain ⟨g, o, v, rfl, hg, hv, c0, c1, c2, c3, c4, c5⟩ := (HX.out.grow hB).at_ hi
      obtain ⟨_, _, f1, f2, f3, f4⟩ := HFT.out v (List.mem_of_getElem? hv)
      have p1 : decide ((i : Int) < (l.length : Int)) = true := decide_eq_true (by omega)
      have p2 : decide (i < l.length) = true := decide_eq_true hi
      have z1 := bs_size v.text
      have z2 := bs_size v.cls
      have z3 := bs_size v.name
      have z4 := bs_size v.desc
      have HF := Lib.hid hv
      have HA := Lib.hid hall
      have k1 := Lib.hid (HB.out.trans (((Below.refl wr.heap.size wr).alloc (Nat.le_refl _) (.cells #[.int .i64 v.tag, .string (bs v.text), .int .u64 v.bits, .string (bs v.cls), .string (bs v.name), .string (bs v.desc)] 25)).mono HB.out.size))
      have hsm : Pv.small v = !decide (300 < v.text.length + v.cls.length + v.name.length + v.desc.length) := rfl
      clear hall hB hv
      by_cases h1 : 300 < v.text.length + v.cls.length + v.name.length + v.desc.length
      · have q1 : decide (300 < v.text.length + v.cls.length + v.name.length + v.desc.length) = true := decide_eq_true h1
        have q1' : decide ((300 : Int) < (v.text.length : Int) + (v.cls.length : Int) + (v.name.length : Int) + (v.desc.length : Int)) = true := decide_eq_true (by omega)
        rw [q1, Bool.not_true] at hsm
        have HS := Lib.hid (all_bad Pv.small HF.out hsm)
        clear hsm
        go_wp2
        go_ret
        exact ⟨by unfold Pv.few; rw [HS.out]; rfl, k1.out⟩
      · have q1 : decide (300 < v.text.length + v.cls.length + v.name.length + v.desc.length) = false := decide_eq_false h1
        have q1' : decide ((300 : Int) < (v.text.length : Int) + (v.cls.length : Int) + (v.name.length : Int) + (v.desc.length : Int)) = false := decide_eq_false (by omega)
        rw [q1, Bool.not_false] at hsm
        have HS := Lib.hid (show (l.take (i + 1)).all Pv.small = true by rw [all_take_snoc Pv.small HF.out, HA.out, hsm]; rfl)
        clear hsm
        go_wp2
        go_roundw
        case rel => exact ⟨i + 1, by omega, by go_num, HS.out, k1.out⟩
        case measure => simp [intOf]; omega
    · obtain rfl : i = l.length := by omega
      have p1 : decide ((l.length : Int) < (l.length : Int)) = false := decide_eq_false (by omega)
      have p2 : decide (l.length < l.length) = false := decide_eq_false (by omega)
      rw [List.take_length] at hall
      have HA := Lib.hid hall
      clear hall hB
      go_wp2
      go_ret
      exact ⟨by unfold Pv.few; rw [HA.out, Bool.true_and]; show Ending.returned (.bool (decide ((l.length : Int) ≤ 60))) = _; rw [show decide ((l.length : Int) ≤ 60) = decide (l.length ≤ 60) from decide_eq_decide.2 (by omega)], HB.out⟩
end Go.Proofs.Ytekcfjfkbiciaaa
