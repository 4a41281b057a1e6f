/- The walk of layer 19: what is wrong with a value, by the program. Printed by mk_check.py. -/
import Derived.Test.YtekcfjfkbiciaaaEq
namespace Go.Proofs.Ytekcfjfkbiciaaa
open Go.RowKit

set_option maxHeartbeats 4000000 in
theorem check_one (tag : Int) (text : List UInt8) (bits : Nat) (cls name desc : List UInt8) (w : World) (h : (tag = 1 ∨ tag = 7 ∨ tag = 8)) :
    Calls Try.prog 22 #[.agg #[.int .i64 tag, .string (bs text), .int .u64 bits, .string (bs cls), .string (bs name), .string (bs desc)]] w fun e w' => e = .returned (.int .i64 (if Pv.mk 0 [] bits cls name desc = Pv.zero then 0 else 9)) ∧ Below w.heap.size w w' := by
  have k1 := Lib.hid (Below.alloc' ((Below.refl w.heap.size w).alloc (Nat.le_refl _) (.cells #[.int .i64 tag, .string (bs text), .int .u64 bits, .string (bs cls), .string (bs name), .string (bs desc)] 25)) (Nat.le_refl _) (.cells #[.int .i64 0, .string ⟨#[]⟩, .int .u64 bits, .string (bs cls), .string (bs name), .string (bs desc)] 25))
  by_cases hz : Pv.mk 0 [] bits cls name desc = Pv.zero
  · have he : ∀ x, (Op.equalIn 10000 25 (.agg #[.int .i64 0, .string ⟨#[]⟩, .int .u64 bits, .string (bs cls), .string (bs name), .string (bs desc)]) (.agg #[.int .i64 0, .string ⟨#[]⟩, .int .u64 0, .string ⟨#[]⟩, .string ⟨#[]⟩, .string ⟨#[]⟩])).run Try.prog x = .ok true x := fun x => (eq_val (Pv.mk 0 [] bits cls name desc) Pv.zero x).trans (by rw [decide_eq_true hz])
    rw [if_pos hz]
    have hb0 := Lib.hid (show bits = 0 by unfold Pv.zero at hz; injection hz)
    clear hz
    rcases h with rfl | rfl | rfl
    · go_enter Try.func22, Try.ntmps22
      go_wp2_with fail
      refine (wide_any 1 _).mono ?_
      rintro e w1 ⟨rfl, rfl⟩
      have hsh : ((bits : Int) / 4294967296 != 0) = false := by rw [hb0.out]; rfl
      go_wp2
      go_ret
      exact ⟨rfl, k1.out⟩
    · go_enter Try.func22, Try.ntmps22
      go_wp2_with fail
      refine (wide_any 7 _).mono ?_
      rintro e w1 ⟨rfl, rfl⟩
      have hsh : ((bits : Int) / 4294967296 != 0) = false := by rw [hb0.out]; rfl
      go_wp2
      go_ret
      exact ⟨rfl, k1.out⟩
    · go_enter Try.func22, Try.ntmps22
      go_wp2_with fail
      refine (wide_any 8 _).mono ?_
      rintro e w1 ⟨rfl, rfl⟩
      have hsh : ((bits : Int) / 4294967296 != 0) = false := by rw [hb0.out]; rfl
      go_wp2
      go_ret
      exact ⟨rfl, k1.out⟩
  · have he : ∀ x, (Op.equalIn 10000 25 (.agg #[.int .i64 0, .string ⟨#[]⟩, .int .u64 bits, .string (bs cls), .string (bs name), .string (bs desc)]) (.agg #[.int .i64 0, .string ⟨#[]⟩, .int .u64 0, .string ⟨#[]⟩, .string ⟨#[]⟩, .string ⟨#[]⟩])).run Try.prog x = .ok false x := fun x => (eq_val (Pv.mk 0 [] bits cls name desc) Pv.zero x).trans (by rw [decide_eq_false hz])
    rw [if_neg hz]
    clear hz
    rcases h with rfl | rfl | rfl
    · go_enter Try.func22, Try.ntmps22
      go_wp2
      go_ret
      exact ⟨rfl, k1.out⟩
    · go_enter Try.func22, Try.ntmps22
      go_wp2
      go_ret
      exact ⟨rfl, k1.out⟩
    · go_enter Try.func22, Try.ntmps22
      go_wp2
      go_ret
      exact ⟨rfl, k1.out⟩
set_option maxHeartbeats 4000000 in
theorem check_two (tag : Int) (text : List UInt8) (bits : Nat) (cls name desc : List UInt8) (w : World) (h : (tag = 3 ∨ tag = 4 ∨ tag = 5 ∨ tag = 6)) :
    Calls Try.prog 22 #[.agg #[.int .i64 tag, .string (bs text), .int .u64 bits, .string (bs cls), .string (bs name), .string (bs desc)]] w fun e w' => e = .returned (.int .i64 (if Pv.mk 0 text 0 cls name desc = Pv.zero then (if (tag = 3 ∨ tag = 4) ∧ 4294967296 ≤ bits then 5 else 0) else 9)) ∧ Below w.heap.size w w' := by
  have k1 := Lib.hid (Below.alloc' ((Below.refl w.heap.size w).alloc (Nat.le_refl _) (.cells #[.int .i64 tag, .string (bs text), .int .u64 bits, .string (bs cls), .string (bs name), .string (bs desc)] 25)) (Nat.le_refl _) (.cells #[.int .i64 0, .string (bs text), .int .u64 0, .string (bs cls), .string (bs name), .string (bs desc)] 25))
  by_cases hz : Pv.mk 0 text 0 cls name desc = Pv.zero
  · have he : ∀ x, (Op.equalIn 10000 25 (.agg #[.int .i64 0, .string (bs text), .int .u64 0, .string (bs cls), .string (bs name), .string (bs desc)]) (.agg #[.int .i64 0, .string ⟨#[]⟩, .int .u64 0, .string ⟨#[]⟩, .string ⟨#[]⟩, .string ⟨#[]⟩])).run Try.prog x = .ok true x := fun x => (eq_val (Pv.mk 0 text 0 cls name desc) Pv.zero x).trans (by rw [decide_eq_true hz])
    rw [if_pos hz]
    clear hz
    rcases h with rfl | rfl | rfl | rfl
    · by_cases hr : 4294967296 ≤ bits
      · rw [if_pos ⟨.inl rfl, hr⟩]
        have hsh := Lib.hid (show ((bits : Int) / 4294967296 != 0) = true by simp; omega)
        clear hr
        go_enter Try.func22, Try.ntmps22
        go_wp2_with fail
        refine (wide_any 3 _).mono ?_
        rintro e w1 ⟨rfl, rfl⟩
        have hsh' := hsh.out
        go_wp2
        go_ret
        exact ⟨rfl, k1.out⟩
      · rw [if_neg fun h => hr h.2]
        have hsh := Lib.hid (show ((bits : Int) / 4294967296 != 0) = false by simp; omega)
        clear hr
        go_enter Try.func22, Try.ntmps22
        go_wp2_with fail
        refine (wide_any 3 _).mono ?_
        rintro e w1 ⟨rfl, rfl⟩
        have hsh' := hsh.out
        go_wp2
        go_ret
        exact ⟨rfl, k1.out⟩
    · by_cases hr : 4294967296 ≤ bits
      · rw [if_pos ⟨.inr rfl, hr⟩]
        have hsh := Lib.hid (show ((bits : Int) / 4294967296 != 0) = true by simp; omega)
        clear hr
        go_enter Try.func22, Try.ntmps22
        go_wp2_with fail
        refine (wide_any 4 _).mono ?_
        rintro e w1 ⟨rfl, rfl⟩
        have hsh' := hsh.out
        go_wp2
        go_ret
        exact ⟨rfl, k1.out⟩
      · rw [if_neg fun h => hr h.2]
        have hsh := Lib.hid (show ((bits : Int) / 4294967296 != 0) = false by simp; omega)
        clear hr
        go_enter Try.func22, Try.ntmps22
        go_wp2_with fail
        refine (wide_any 4 _).mono ?_
        rintro e w1 ⟨rfl, rfl⟩
        have hsh' := hsh.out
        go_wp2
        go_ret
        exact ⟨rfl, k1.out⟩
    · rw [if_neg (by simp)]
      go_enter Try.func22, Try.ntmps22
      go_wp2_with fail
      refine (wide_any 5 _).mono ?_
      rintro e w1 ⟨rfl, rfl⟩
      go_wp2
      go_ret
      exact ⟨rfl, k1.out⟩
    · rw [if_neg (by simp)]
      go_enter Try.func22, Try.ntmps22
      go_wp2_with fail
      refine (wide_any 6 _).mono ?_
      rintro e w1 ⟨rfl, rfl⟩
      go_wp2
      go_ret
      exact ⟨rfl, k1.out⟩
  · have he : ∀ x, (Op.equalIn 10000 25 (.agg #[.int .i64 0, .string (bs text), .int .u64 0, .string (bs cls), .string (bs name), .string (bs desc)]) (.agg #[.int .i64 0, .string ⟨#[]⟩, .int .u64 0, .string ⟨#[]⟩, .string ⟨#[]⟩, .string ⟨#[]⟩])).run Try.prog x = .ok false x := fun x => (eq_val (Pv.mk 0 text 0 cls name desc) Pv.zero x).trans (by rw [decide_eq_false hz])
    rw [if_neg hz]
    clear hz
    rcases h with rfl | rfl | rfl | rfl
    · go_enter Try.func22, Try.ntmps22
      go_wp2
      go_ret
      exact ⟨rfl, k1.out⟩
    · go_enter Try.func22, Try.ntmps22
      go_wp2
      go_ret
      exact ⟨rfl, k1.out⟩
    · go_enter Try.func22, Try.ntmps22
      go_wp2
      go_ret
      exact ⟨rfl, k1.out⟩
    · go_enter Try.func22, Try.ntmps22
      go_wp2
      go_ret
      exact ⟨rfl, k1.out⟩
set_option maxHeartbeats 4000000 in
theorem check_pair (tag : Int) (text : List UInt8) (bits : Nat) (cls name desc : List UInt8) (w : World) (h : tag = 12) :
    Calls Try.prog 22 #[.agg #[.int .i64 tag, .string (bs text), .int .u64 bits, .string (bs cls), .string (bs name), .string (bs desc)]] w fun e w' => e = .returned (.int .i64 (if Pv.mk 0 text bits cls [] [] = Pv.zero then 0 else 9)) ∧ Below w.heap.size w w' := by
  have k1 := Lib.hid (Below.alloc' ((Below.refl w.heap.size w).alloc (Nat.le_refl _) (.cells #[.int .i64 tag, .string (bs text), .int .u64 bits, .string (bs cls), .string (bs name), .string (bs desc)] 25)) (Nat.le_refl _) (.cells #[.int .i64 0, .string (bs text), .int .u64 bits, .string (bs cls), .string ⟨#[]⟩, .string ⟨#[]⟩] 25))
  by_cases hz : Pv.mk 0 text bits cls [] [] = Pv.zero
  · have he : ∀ x, (Op.equalIn 10000 25 (.agg #[.int .i64 0, .string (bs text), .int .u64 bits, .string (bs cls), .string ⟨#[]⟩, .string ⟨#[]⟩]) (.agg #[.int .i64 0, .string ⟨#[]⟩, .int .u64 0, .string ⟨#[]⟩, .string ⟨#[]⟩, .string ⟨#[]⟩])).run Try.prog x = .ok true x := fun x => (eq_val (Pv.mk 0 text bits cls [] []) Pv.zero x).trans (by rw [decide_eq_true hz])
    rw [if_pos hz]
    have hb0 := Lib.hid (show bits = 0 by unfold Pv.zero at hz; injection hz)
    clear hz
    rcases h with rfl
    · go_enter Try.func22, Try.ntmps22
      go_wp2_with fail
      refine (wide_any 12 _).mono ?_
      rintro e w1 ⟨rfl, rfl⟩
      have hsh : ((bits : Int) / 4294967296 != 0) = false := by rw [hb0.out]; rfl
      go_wp2
      go_ret
      exact ⟨rfl, k1.out⟩
  · have he : ∀ x, (Op.equalIn 10000 25 (.agg #[.int .i64 0, .string (bs text), .int .u64 bits, .string (bs cls), .string ⟨#[]⟩, .string ⟨#[]⟩]) (.agg #[.int .i64 0, .string ⟨#[]⟩, .int .u64 0, .string ⟨#[]⟩, .string ⟨#[]⟩, .string ⟨#[]⟩])).run Try.prog x = .ok false x := fun x => (eq_val (Pv.mk 0 text bits cls [] []) Pv.zero x).trans (by rw [decide_eq_false hz])
    rw [if_neg hz]
    clear hz
    rcases h with rfl
    · go_enter Try.func22, Try.ntmps22
      go_wp2
      go_ret
      exact ⟨rfl, k1.out⟩
set_option maxHeartbeats 4000000 in
theorem check_memb (tag : Int) (text : List UInt8) (bits : Nat) (cls name desc : List UInt8) (w : World) (h : (tag = 9 ∨ tag = 10 ∨ tag = 11)) :
    Calls Try.prog 22 #[.agg #[.int .i64 tag, .string (bs text), .int .u64 bits, .string (bs cls), .string (bs name), .string (bs desc)]] w fun e w' => e = .returned (.int .i64 (if Pv.mk 0 text bits [] [] [] = Pv.zero then 0 else 9)) ∧ Below w.heap.size w w' := by
  have k1 := Lib.hid (Below.alloc' ((Below.refl w.heap.size w).alloc (Nat.le_refl _) (.cells #[.int .i64 tag, .string (bs text), .int .u64 bits, .string (bs cls), .string (bs name), .string (bs desc)] 25)) (Nat.le_refl _) (.cells #[.int .i64 0, .string (bs text), .int .u64 bits, .string ⟨#[]⟩, .string ⟨#[]⟩, .string ⟨#[]⟩] 25))
  by_cases hz : Pv.mk 0 text bits [] [] [] = Pv.zero
  · have he : ∀ x, (Op.equalIn 10000 25 (.agg #[.int .i64 0, .string (bs text), .int .u64 bits, .string ⟨#[]⟩, .string ⟨#[]⟩, .string ⟨#[]⟩]) (.agg #[.int .i64 0, .string ⟨#[]⟩, .int .u64 0, .string ⟨#[]⟩, .string ⟨#[]⟩, .string ⟨#[]⟩])).run Try.prog x = .ok true x := fun x => (eq_val (Pv.mk 0 text bits [] [] []) Pv.zero x).trans (by rw [decide_eq_true hz])
    rw [if_pos hz]
    have hb0 := Lib.hid (show bits = 0 by unfold Pv.zero at hz; injection hz)
    clear hz
    rcases h with rfl | rfl | rfl
    · go_enter Try.func22, Try.ntmps22
      go_wp2_with fail
      refine (wide_any 9 _).mono ?_
      rintro e w1 ⟨rfl, rfl⟩
      have hsh : ((bits : Int) / 4294967296 != 0) = false := by rw [hb0.out]; rfl
      go_wp2
      go_ret
      exact ⟨rfl, k1.out⟩
    · go_enter Try.func22, Try.ntmps22
      go_wp2_with fail
      refine (wide_any 10 _).mono ?_
      rintro e w1 ⟨rfl, rfl⟩
      have hsh : ((bits : Int) / 4294967296 != 0) = false := by rw [hb0.out]; rfl
      go_wp2
      go_ret
      exact ⟨rfl, k1.out⟩
    · go_enter Try.func22, Try.ntmps22
      go_wp2_with fail
      refine (wide_any 11 _).mono ?_
      rintro e w1 ⟨rfl, rfl⟩
      have hsh : ((bits : Int) / 4294967296 != 0) = false := by rw [hb0.out]; rfl
      go_wp2
      go_ret
      exact ⟨rfl, k1.out⟩
  · have he : ∀ x, (Op.equalIn 10000 25 (.agg #[.int .i64 0, .string (bs text), .int .u64 bits, .string ⟨#[]⟩, .string ⟨#[]⟩, .string ⟨#[]⟩]) (.agg #[.int .i64 0, .string ⟨#[]⟩, .int .u64 0, .string ⟨#[]⟩, .string ⟨#[]⟩, .string ⟨#[]⟩])).run Try.prog x = .ok false x := fun x => (eq_val (Pv.mk 0 text bits [] [] []) Pv.zero x).trans (by rw [decide_eq_false hz])
    rw [if_neg hz]
    clear hz
    rcases h with rfl | rfl | rfl
    · go_enter Try.func22, Try.ntmps22
      go_wp2
      go_ret
      exact ⟨rfl, k1.out⟩
    · go_enter Try.func22, Try.ntmps22
      go_wp2
      go_ret
      exact ⟨rfl, k1.out⟩
    · go_enter Try.func22, Try.ntmps22
      go_wp2
      go_ret
      exact ⟨rfl, k1.out⟩
set_option maxHeartbeats 4000000 in
theorem check_no (tag : Int) (text : List UInt8) (bits : Nat) (cls name desc : List UInt8) (w : World) (n1 : ¬ (tag = 1 ∨ tag = 7 ∨ tag = 8)) (n2 : ¬ (tag = 3 ∨ tag = 4 ∨ tag = 5 ∨ tag = 6)) (n3 : ¬ tag = 12) (n4 : ¬ (tag = 9 ∨ tag = 10 ∨ tag = 11)) :
    Calls Try.prog 22 #[.agg #[.int .i64 tag, .string (bs text), .int .u64 bits, .string (bs cls), .string (bs name), .string (bs desc)]] w fun e w' => e = .returned (.int .i64 9) ∧ Below w.heap.size w w' := by
  have k1 := Lib.hid (Below.alloc' ((Below.refl w.heap.size w).alloc (Nat.le_refl _) (.cells #[.int .i64 tag, .string (bs text), .int .u64 bits, .string (bs cls), .string (bs name), .string (bs desc)] 25)) (Nat.le_refl _) (.cells #[.int .i64 0, .string (bs text), .int .u64 bits, .string (bs cls), .string (bs name), .string (bs desc)] 25))
  have u1 : (tag == 1) = false := by simp; omega
  have u7 : (tag == 7) = false := by simp; omega
  have u8 : (tag == 8) = false := by simp; omega
  have u3 : (tag == 3) = false := by simp; omega
  have u4 : (tag == 4) = false := by simp; omega
  have u5 : (tag == 5) = false := by simp; omega
  have u6 : (tag == 6) = false := by simp; omega
  have u12 : (tag == 12) = false := by simp; omega
  have u9 : (tag == 9) = false := by simp; omega
  have u10 : (tag == 10) = false := by simp; omega
  have u11 : (tag == 11) = false := by simp; omega
  clear n1 n2 n3 n4
  go_enter Try.func22, Try.ntmps22
  go_wp2
  go_ret
  exact ⟨rfl, k1.out⟩
theorem check_any (v : Pv) (w : World) : Calls Try.prog 22 #[vv v] w fun e w' => e = .returned (.int .i64 (v.chk 0 9 5)) ∧ Below w.heap.size w w' := by
  obtain ⟨tag, text, bits, cls, name, desc⟩ := v
  rw [chk_form]
  split
  · rename_i h; exact check_one tag text bits cls name desc w h
  · rename_i n1
    split
    · rename_i h; exact check_two tag text bits cls name desc w h
    · rename_i n2
      split
      · rename_i h; exact check_pair tag text bits cls name desc w h
      · rename_i n3
        split
        · rename_i h; exact check_memb tag text bits cls name desc w h
        · rename_i n4; exact check_no tag text bits cls name desc w n1 n2 n3 n4
end Go.Proofs.Ytekcfjfkbiciaaa
