/- The walks of layer 14: values, letters, names of the reference. -/
import Derived.Test.YtbjhnfemlpbchaaWalksA
namespace Go.Proofs.Ytbjhnfemlpbchaa
open Go.RowKit

theorem value_sign (c : UInt8) : Ma.badSign c = [0, 13, 10].contains c := by
  unfold Ma.badSign
  rw [Bool.eq_iff_iff]
  simp only [Bool.or_eq_true, beq_iff_eq, List.contains_iff_mem, List.mem_cons, List.not_mem_nil, or_false]
  constructor
  · rintro ((h | h) | h)
    · exact .inl (UInt8.toNat_inj.1 h)
    · exact .inr (.inr (UInt8.toNat_inj.1 h))
    · exact .inr (.inl (UInt8.toNat_inj.1 h))
  · rintro (rfl | rfl | rfl)
    · exact .inl (.inl rfl)
    · exact .inr rfl
    · exact .inl (.inr rfl)
theorem value_has (l : List UInt8) : Ma.value l = !(l.any fun b => [0, 13, 10].contains b) := by
  unfold Ma.value
  rw [List.all_eq_not_any_not]
  congr 2
  funext c
  rw [Bool.not_not, value_sign]
theorem value_any (l : List UInt8) (w : World) (hl : l.length ≤ 1000000000) :
    Calls Try.prog 40 #[.string (bs l)] w fun e w' => e = .returned (.bool (Ma.value l)) ∧ Below w.heap.size w w' := by
  have h := containsAny_any l [0, 13, 10] w hl (by simp) (by simp) (fun c hc => by simp at hc; rcases hc with rfl | rfl | rfl <;> decide)
  have hv0 := value_has l
  generalize (l.any fun b => [0, 13, 10].contains b) = q at h hv0
  have H := Lib.hid h
  have hv := Lib.hid hv0
  clear h hv0
  go_enter Try.func40, Try.ntmps40
  go_wp2_with fail
  refine H.out.mono ?_
  rintro e w1 ⟨rfl, hb⟩
  go_wp2
  go_ret
  exact ⟨ret_bool hv.out.symm, hb⟩

def Ma.letterI (r : Int) : Bool := (decide (97 ≤ r) && decide (r ≤ 122)) || (decide (65 ≤ r) && decide (r ≤ 90)) || (decide (48 ≤ r) && decide (r ≤ 57))
set_option maxHeartbeats 2000000 in
theorem plain_any (r : Int) (w : World) :
    Calls Try.prog 32 #[.int .i32 r] w fun e w' => e = .returned (.bool (Ma.letterI r)) ∧ w = w' := by
  have hv := Lib.hid (show Ma.letterI r = ((decide (97 ≤ r) && decide (r ≤ 122)) || (decide (65 ≤ r) && decide (r ≤ 90)) || (decide (48 ≤ r) && decide (r ≤ 57))) from rfl)
  rw [hv.out]
  clear hv
  cases h1 : decide (97 ≤ r) <;> cases h2 : decide (r ≤ 122) <;> cases h3 : decide (65 ≤ r) <;> cases h4 : decide (r ≤ 90) <;> cases h5 : decide (48 ≤ r) <;> cases h6 : decide (r ≤ 57)
  all_goals (go_enter Try.func32, Try.ntmps32; go_wp2; go_ret; exact ⟨rfl, rfl⟩)

theorem letter_nat (c : UInt8) : Ma.letter c = Ma.letterI (c.toNat : Int) := by
  have h1 : decide ((97 : Int) ≤ (c.toNat : Int)) = decide (97 ≤ c.toNat) := decide_eq_decide.2 (by omega)
  have h2 : decide ((c.toNat : Int) ≤ 122) = decide (c.toNat ≤ 122) := decide_eq_decide.2 (by omega)
  have h3 : decide ((65 : Int) ≤ (c.toNat : Int)) = decide (65 ≤ c.toNat) := decide_eq_decide.2 (by omega)
  have h4 : decide ((c.toNat : Int) ≤ 90) = decide (c.toNat ≤ 90) := decide_eq_decide.2 (by omega)
  have h5 : decide ((48 : Int) ≤ (c.toNat : Int)) = decide (48 ≤ c.toNat) := decide_eq_decide.2 (by omega)
  have h6 : decide ((c.toNat : Int) ≤ 57) = decide (c.toNat ≤ 57) := decide_eq_decide.2 (by omega)
  unfold Ma.letter Ma.letterI
  rw [h1, h2, h3, h4, h5, h6]
theorem signs_at {l : List UInt8} {i : Nat} {c : UInt8} (h : l[i]? = some c) : Ma.signs (i == 0) (l.drop i) = (Ma.signOk (i == 0) c && Ma.signs false (l.drop (i + 1))) := by
  obtain ⟨h1, rfl⟩ := List.getElem?_eq_some_iff.1 h
  rw [List.drop_eq_getElem_cons h1]
  rfl
end Go.Proofs.Ytbjhnfemlpbchaa
