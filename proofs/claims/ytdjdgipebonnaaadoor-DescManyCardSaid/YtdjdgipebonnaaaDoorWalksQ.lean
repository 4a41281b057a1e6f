/- Layer 17: the law DescMany. -/
import Derived.Test.YtdjdgipebonnaaaDoorWalksP
namespace Go.Proofs.YtdjdgipebonnaaaDoor
open Go.RowKit

/-- So many of one descriptor behind the opening bracket. -/
def De.mk (one : List UInt8) (i : Nat) : List UInt8 := [40] ++ (List.replicate i one).flatten
theorem De.mk_succ (one : List UInt8) (i : Nat) : De.mk one i ++ one = De.mk one (i + 1) := by
  unfold De.mk
  rw [List.replicate_succ', List.flatten_append, List.append_assoc]
  simp
theorem De.rest_rep (one : List UInt8) (c : UInt8) (t : List UInt8) (ho : one = c :: t) (hc : c ≠ 41) (hf : De.field one = true) : ∀ k, De.rest ((List.replicate k one).flatten ++ [41, 86]) = some (List.replicate k one, [86])
  | 0 => by
    rw [List.replicate_zero, List.flatten_nil, List.nil_append, De.rest_close rfl]
    exact if_pos (.inl rfl)
  | k + 1 => by
    have ih := De.rest_rep one c t ho hc hf k
    rw [List.replicate_succ, List.flatten_cons, List.append_assoc]
    generalize (List.replicate k one).flatten ++ [41, 86] = r at *
    have hcut : De.cut (one ++ r) = one.length := De.cut_of (by rw [List.length_append]; omega) (by rw [List.take_left]; exact hf)
    rw [De.rest_step (by rw [ho]; simpa using hc) (by rw [hcut, ho]; simp), hcut, List.drop_left, List.take_left, ih]
    rfl
theorem De.params_mk (one : List UInt8) (c : UInt8) (t : List UInt8) (ho : one = c :: t) (hc : c ≠ 41) (hf : De.field one = true) (k : Nat) : De.params (De.mk one k ++ [41, 86]) = some (List.replicate k one, [86]) := by
  unfold De.params De.mk
  rw [List.append_assoc]
  exact (if_pos rfl).trans (De.rest_rep one c t ho hc hf k)
theorem De.sum_rep (one : List UInt8) (r : Nat) (h : De.room one = r) : ∀ k, De.sum (List.replicate k one) = k * r
  | 0 => by simp [De.sum]
  | k + 1 => by rw [List.replicate_succ', De.sum_snoc, De.sum_rep one r h k, h, Nat.succ_mul]
theorem De.mk_len (one : List UInt8) (k : Nat) : (De.mk one k).length = 1 + k * one.length := by
  unfold De.mk
  simp
  omega

set_option maxHeartbeats 8000000 in
set_option maxRecDepth 100000 in
theorem many_a (n : Int) (k : Nat) (w : World) (h0 : 0 ≤ n) (h1 : n ≤ 65535) (hk : n % 300 = (k : Int)) (hm : MaxP w) :
    Calls Tryd.prog 5 #[.int .u16 n, .bool false] w fun e w' => e = .returned (.bool true) ∧ Below w.heap.size w w' := by
  have HM := Lib.hid hm
  have HF := Lib.hid (fixed_any w hm)
  have hk3 : k < 300 := by omega
  have hpar := Lib.hid (De.params_mk [91, 91, 76, 97, 59] _ _ rfl (by decide) (by decide +kernel) k)
  have hsm := Lib.hid (De.sum_rep [91, 91, 76, 97, 59] 1 (by decide +kernel) k)
  have hlen := De.mk_len [91, 91, 76, 97, 59] k
  clear hm
  go_enter Tryd.func5, Tryd.ntmps5
  go_wp2_with fail
  refine HF.out.mono ?_
  rintro e w1 ⟨rfl, hb⟩
  have J1 := Lib.hid hb
  clear hb HF
  go_wp2_with fail
  go_loopw [8, 21] (fun s u wr => ∃ i : Nat, i ≤ k ∧ u = .int .i64 i ∧ s = .string (bs (De.mk [91, 91, 76, 97, 59] i)) ∧ wr = w1) (fun _ u _ => k - (intOf u).toNat)
  case atStart => exact ⟨0, Nat.zero_le _, rfl, rfl, rfl⟩
  case round =>
    obtain ⟨i, hil, rfl, rfl, rfl⟩ := hrel
    have hml := De.mk_len [91, 91, 76, 97, 59] i
    have hmz := bs_size (De.mk [91, 91, 76, 97, 59] i)
    simp only [List.length_cons, List.length_nil] at hml
    by_cases hlt : i < k
    · have hs := Lib.hid (show bs (De.mk [91, 91, 76, 97, 59] i) ++ ⟨#[91, 91, 76, 97, 59]⟩ = bs (De.mk [91, 91, 76, 97, 59] (i + 1)) by rw [show (⟨#[91, 91, 76, 97, 59]⟩ : ByteArray) = bs [91, 91, 76, 97, 59] from rfl, bs_append, De.mk_succ])
      go_wp2_with fail
      go_roundw
      case rel => exact ⟨i + 1, by omega, by go_num, by rw [hs.out], trivial⟩
      case measure => simp [intOf]; omega
    · obtain rfl : i = k := by omega
      have hsum : bs (De.mk [91, 91, 76, 97, 59] i) ++ ⟨#[41, 86]⟩ = bs (De.mk [91, 91, 76, 97, 59] i ++ [41, 86]) := bs_append _ _
      have hTl : (De.mk [91, 91, 76, 97, 59] i ++ [41, 86]).length ≤ 1000000000 := by rw [List.length_append, hlen]; simp; omega
      have hHH : Hid (bs (De.mk [91, 91, 76, 97, 59] i ++ [41, 86]) = bs (De.mk [91, 91, 76, 97, 59] i ++ [41, 86])) := Lib.hid rfl
      generalize De.mk [91, 91, 76, 97, 59] i ++ [41, 86] = T at *
      have hpl := Lib.hid (show De.parList T = List.replicate i [91, 91, 76, 97, 59] by unfold De.parList; rw [hpar.out]; rfl)
      have hps : (De.params T).isSome = true := by rw [hpar.out]; rfl
      have hrm := Lib.hid (show De.rooms T = if i * 1 ≤ 255 then some (i * 1) else none by rw [De.rooms_yes hps, hpl.out, hsm.out])
      clear hlen
      go_wp2_with fail
      refine (params_any T _ hTl (max_below HM.out J1.out)).mono ?_
      rintro e w2 ⟨v, rfl, hrow, hb⟩
      rw [hps]
      have J2 := Lib.hid (Below.after' J1.out hb (Nat.le_refl _))
      obtain ⟨A, c, rfl, _, _⟩ := srow_form hrow
      have hvl : (De.parList T).length = i := by rw [hpl.out, List.length_replicate]
      rw [hvl]
      clear hrow hb hvl hps
      by_cases h255 : i * 1 ≤ 255
      · have hR := Lib.hid (show De.rooms T = some (i * 1) by rw [hrm.out, if_pos h255])
        have d1 : decide ((i : Int) ≤ 255) = true := decide_eq_true (by omega)
        have d3 : decide (i ≤ 255) = true := decide_eq_true (by omega)
        have d2 : decide (i ≤ 255) = true ∨ True := .inr trivial
        go_wp2_with fail
        refine (rooms_any T _ hTl (max_below HM.out J2.out)).mono ?_
        rintro e w3 ⟨rfl, hb⟩
        rw [hR.out]
        have J3 := Lib.hid (Below.after' J2.out hb (Nat.le_refl _))
        clear hb d2
        go_wp2
        go_ret
        exact ⟨rfl, J3.out⟩
      · have hR := Lib.hid (show De.rooms T = none by rw [hrm.out, if_neg h255])
        have d1 : decide ((i : Int) ≤ 255) = false := decide_eq_false (by omega)
        have d3 : decide (i ≤ 255) = false := decide_eq_false (by omega)
        go_wp2_with fail
        refine (rooms_any T _ hTl (max_below HM.out J2.out)).mono ?_
        rintro e w3 ⟨rfl, hb⟩
        rw [hR.out]
        have J3 := Lib.hid (Below.after' J2.out hb (Nat.le_refl _))
        clear hb
        go_wp2
        go_ret
        exact ⟨rfl, J3.out⟩

set_option maxHeartbeats 8000000 in
set_option maxRecDepth 100000 in
theorem many_b (n : Int) (k : Nat) (w : World) (h0 : 0 ≤ n) (h1 : n ≤ 65535) (hk : n % 300 = (k : Int)) (hm : MaxP w) :
    Calls Tryd.prog 5 #[.int .u16 n, .bool true] w fun e w' => e = .returned (.bool true) ∧ Below w.heap.size w w' := by
  have HM := Lib.hid hm
  have HF := Lib.hid (fixed_any w hm)
  have hk3 : k < 300 := by omega
  have hpar := Lib.hid (De.params_mk [68] _ _ rfl (by decide) (by decide +kernel) k)
  have hsm := Lib.hid (De.sum_rep [68] 2 (by decide +kernel) k)
  have hlen := De.mk_len [68] k
  clear hm
  go_enter Tryd.func5, Tryd.ntmps5
  go_wp2_with fail
  refine HF.out.mono ?_
  rintro e w1 ⟨rfl, hb⟩
  have J1 := Lib.hid hb
  clear hb HF
  go_wp2_with fail
  go_loopw [8, 21] (fun s u wr => ∃ i : Nat, i ≤ k ∧ u = .int .i64 i ∧ s = .string (bs (De.mk [68] i)) ∧ wr = w1) (fun _ u _ => k - (intOf u).toNat)
  case atStart => exact ⟨0, Nat.zero_le _, rfl, rfl, rfl⟩
  case round =>
    obtain ⟨i, hil, rfl, rfl, rfl⟩ := hrel
    have hml := De.mk_len [68] i
    have hmz := bs_size (De.mk [68] i)
    simp only [List.length_cons, List.length_nil] at hml
    by_cases hlt : i < k
    · have hs := Lib.hid (show bs (De.mk [68] i) ++ ⟨#[68]⟩ = bs (De.mk [68] (i + 1)) by rw [show (⟨#[68]⟩ : ByteArray) = bs [68] from rfl, bs_append, De.mk_succ])
      go_wp2_with fail
      go_roundw
      case rel => exact ⟨i + 1, by omega, by go_num, by rw [hs.out], trivial⟩
      case measure => simp [intOf]; omega
    · obtain rfl : i = k := by omega
      have hsum : bs (De.mk [68] i) ++ ⟨#[41, 86]⟩ = bs (De.mk [68] i ++ [41, 86]) := bs_append _ _
      have hTl : (De.mk [68] i ++ [41, 86]).length ≤ 1000000000 := by rw [List.length_append, hlen]; simp; omega
      have hHH : Hid (bs (De.mk [68] i ++ [41, 86]) = bs (De.mk [68] i ++ [41, 86])) := Lib.hid rfl
      generalize De.mk [68] i ++ [41, 86] = T at *
      have hpl := Lib.hid (show De.parList T = List.replicate i [68] by unfold De.parList; rw [hpar.out]; rfl)
      have hps : (De.params T).isSome = true := by rw [hpar.out]; rfl
      have hrm := Lib.hid (show De.rooms T = if i * 2 ≤ 255 then some (i * 2) else none by rw [De.rooms_yes hps, hpl.out, hsm.out])
      clear hlen
      go_wp2_with fail
      refine (params_any T _ hTl (max_below HM.out J1.out)).mono ?_
      rintro e w2 ⟨v, rfl, hrow, hb⟩
      rw [hps]
      have J2 := Lib.hid (Below.after' J1.out hb (Nat.le_refl _))
      obtain ⟨A, c, rfl, _, _⟩ := srow_form hrow
      have hvl : (De.parList T).length = i := by rw [hpl.out, List.length_replicate]
      rw [hvl]
      clear hrow hb hvl hps
      by_cases h255 : i * 2 ≤ 255
      · have hR := Lib.hid (show De.rooms T = some (i * 2) by rw [hrm.out, if_pos h255])
        have d1 : decide ((i : Int) * 2 ≤ 255) = true := decide_eq_true (by omega)
        have d2 : decide (i ≤ 255) = true ∨ True := .inr trivial
        go_wp2_with fail
        refine (rooms_any T _ hTl (max_below HM.out J2.out)).mono ?_
        rintro e w3 ⟨rfl, hb⟩
        rw [hR.out]
        have J3 := Lib.hid (Below.after' J2.out hb (Nat.le_refl _))
        clear hb d2
        go_wp2
        go_ret
        exact ⟨rfl, J3.out⟩
      · have hR := Lib.hid (show De.rooms T = none by rw [hrm.out, if_neg h255])
        have d1 : decide ((i : Int) * 2 ≤ 255) = false := decide_eq_false (by omega)
        go_wp2_with fail
        refine (rooms_any T _ hTl (max_below HM.out J2.out)).mono ?_
        rintro e w3 ⟨rfl, hb⟩
        rw [hR.out]
        have J3 := Lib.hid (Below.after' J2.out hb (Nat.le_refl _))
        clear hb
        go_wp2
        go_ret
        exact ⟨rfl, J3.out⟩

theorem many_any (n : Int) (wide : Bool) (w : World) (wn : (Lit.int .u16 n).wf = true) (hm : MaxP w) :
    Calls Tryd.prog 5 #[.int .u16 n, .bool wide] w fun e w' => e = .returned (.bool true) ∧ Below w.heap.size w w' := by
  have h1 : IntKind.u16.min ≤ n ∧ n ≤ IntKind.u16.max := by simpa [Lit.wf] using wn
  have h2 : IntKind.u16.min = 0 := rfl
  have h3 : IntKind.u16.max = 65535 := rfl
  obtain ⟨k, hk⟩ : ∃ k : Nat, n % 300 = (k : Int) := ⟨(n % 300).toNat, by omega⟩
  cases wide
  · exact many_a n k w (by omega) (by omega) hk hm
  · exact many_b n k w (by omega) (by omega) hk hm
end Go.Proofs.YtdjdgipebonnaaaDoor
