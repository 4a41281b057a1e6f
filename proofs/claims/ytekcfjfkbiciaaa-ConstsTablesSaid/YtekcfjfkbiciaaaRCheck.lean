/- The walk of layer 19: what is wrong with a value, by the document. Printed by mk_rcheck.py. -/
import Derived.Test.YtekcfjfkbiciaaaCheck
namespace Go.Proofs.Ytekcfjfkbiciaaa
open Go.RowKit

def Pv.form (t : Int) : Int := if t = 1 then 116 else if t = 3 ∨ t = 4 then 52 else if t = 5 ∨ t = 6 then 56 else if t = 7 ∨ t = 8 then 97 else if t = 9 ∨ t = 10 ∨ t = 11 ∨ t = 12 then 98 else 0
set_option maxHeartbeats 1000000 in
theorem form_any (t : Int) (w : World) : Calls Try.prog 46 #[.int .i64 t] w fun e w' => e = .returned (.int .u8 (Pv.form t)) ∧ w' = w := by
  by_cases h : t = 1 ∨ t = 3 ∨ t = 4 ∨ t = 5 ∨ t = 6 ∨ t = 7 ∨ t = 8 ∨ t = 9 ∨ t = 10 ∨ t = 11 ∨ t = 12
  · rcases h with rfl | rfl | rfl | rfl | rfl | rfl | rfl | rfl | rfl | rfl | rfl <;>
    · go_enter Try.func46, Try.ntmps46
      go_wp2
      go_ret
      exact ⟨rfl, rfl⟩
  · have hf : Pv.form t = 0 := by unfold Pv.form; rw [if_neg (by omega), if_neg (by omega), if_neg (by omega), if_neg (by omega), if_neg (by omega)]
    have u1 : (t == 1) = false := by simp; omega
    have u7 : (t == 7) = false := by simp; omega
    have u8 : (t == 8) = false := by simp; omega
    have u3 : (t == 3) = false := by simp; omega
    have u4 : (t == 4) = false := by simp; omega
    have u5 : (t == 5) = false := by simp; omega
    have u6 : (t == 6) = false := by simp; omega
    have u12 : (t == 12) = false := by simp; omega
    have u9 : (t == 9) = false := by simp; omega
    have u10 : (t == 10) = false := by simp; omega
    have u11 : (t == 11) = false := by simp; omega
    clear h
    go_enter Try.func46, Try.ntmps46
    go_wp2
    go_ret
    exact ⟨by rw [hf]; rfl, rfl⟩
set_option maxHeartbeats 4000000 in
set_option maxRecDepth 100000 in
theorem rcheck_1 (text : List UInt8) (bits : Nat) (cls name desc : List UInt8) (w : World) :
    Calls Try.prog 33 #[.agg #[.int .i64 1, .string (bs text), .int .u64 bits, .string (bs cls), .string (bs name), .string (bs desc)]] w fun e w' => e = .returned (.int .i64 (if bits = 0 ∧ cls = [] ∧ name = [] ∧ desc = [] then 0 else 9)) ∧ Below w.heap.size w w' := by
  have k1 := Lib.hid (Below.alloc' ((Below.refl w.heap.size w).alloc (Nat.le_refl _) (.cells #[.int .i64 1, .string (bs text), .int .u64 bits, .string (bs cls), .string (bs name), .string (bs desc)] 25)) (Nat.le_refl _) (.cells #[.int .i64 1, .string (bs text), .int .u64 0, .string ⟨#[]⟩, .string ⟨#[]⟩, .string ⟨#[]⟩] 25))
  have hiff : Pv.mk 1 text 0 [] [] [] = Pv.mk 1 text bits cls name desc ↔ (bits = 0 ∧ cls = [] ∧ name = [] ∧ desc = []) := by
    simp only [Pv.mk.injEq, true_and, and_true]
    constructor <;> (intro h; simp_all)
  by_cases hz : bits = 0 ∧ cls = [] ∧ name = [] ∧ desc = []
  · have he : ∀ x, (Op.equalIn 10000 25 (.agg #[.int .i64 1, .string (bs text), .int .u64 0, .string ⟨#[]⟩, .string ⟨#[]⟩, .string ⟨#[]⟩]) (.agg #[.int .i64 1, .string (bs text), .int .u64 bits, .string (bs cls), .string (bs name), .string (bs desc)])).run Try.prog x = .ok true x := fun x => (eq_val (Pv.mk 1 text 0 [] [] []) (Pv.mk 1 text bits cls name desc) x).trans (by rw [decide_eq_true (hiff.2 hz)])
    have hs : decide ((4294967296 : Int) ≤ (bits : Int)) = false := decide_eq_false (by have := hz.1; omega)
    rw [if_pos hz]
    clear hz hiff
    go_enter Try.func33, Try.ntmps33
    go_wp2_with fail
    refine (form_any 1 _).mono ?_
    rintro e w1 ⟨rfl, rfl⟩
    simp only [show Pv.form 1 = 116 from by simp [Pv.form]]
    go_wp2
    go_ret
    exact ⟨rfl, k1.out⟩
  · have he : ∀ x, (Op.equalIn 10000 25 (.agg #[.int .i64 1, .string (bs text), .int .u64 0, .string ⟨#[]⟩, .string ⟨#[]⟩, .string ⟨#[]⟩]) (.agg #[.int .i64 1, .string (bs text), .int .u64 bits, .string (bs cls), .string (bs name), .string (bs desc)])).run Try.prog x = .ok false x := fun x => (eq_val (Pv.mk 1 text 0 [] [] []) (Pv.mk 1 text bits cls name desc) x).trans (by rw [decide_eq_false (fun h => hz (hiff.1 h))])
    rw [if_neg hz]
    clear hz hiff
    go_enter Try.func33, Try.ntmps33
    go_wp2_with fail
    refine (form_any 1 _).mono ?_
    rintro e w1 ⟨rfl, rfl⟩
    simp only [show Pv.form 1 = 116 from by simp [Pv.form]]
    go_wp2
    go_ret
    exact ⟨rfl, k1.out⟩
set_option maxHeartbeats 4000000 in
set_option maxRecDepth 100000 in
theorem rcheck_7 (text : List UInt8) (bits : Nat) (cls name desc : List UInt8) (w : World) :
    Calls Try.prog 33 #[.agg #[.int .i64 7, .string (bs text), .int .u64 bits, .string (bs cls), .string (bs name), .string (bs desc)]] w fun e w' => e = .returned (.int .i64 (if bits = 0 ∧ cls = [] ∧ name = [] ∧ desc = [] then 0 else 9)) ∧ Below w.heap.size w w' := by
  have k1 := Lib.hid (Below.alloc' ((Below.refl w.heap.size w).alloc (Nat.le_refl _) (.cells #[.int .i64 7, .string (bs text), .int .u64 bits, .string (bs cls), .string (bs name), .string (bs desc)] 25)) (Nat.le_refl _) (.cells #[.int .i64 7, .string (bs text), .int .u64 0, .string ⟨#[]⟩, .string ⟨#[]⟩, .string ⟨#[]⟩] 25))
  have hiff : Pv.mk 7 text 0 [] [] [] = Pv.mk 7 text bits cls name desc ↔ (bits = 0 ∧ cls = [] ∧ name = [] ∧ desc = []) := by
    simp only [Pv.mk.injEq, true_and, and_true]
    constructor <;> (intro h; simp_all)
  by_cases hz : bits = 0 ∧ cls = [] ∧ name = [] ∧ desc = []
  · have he : ∀ x, (Op.equalIn 10000 25 (.agg #[.int .i64 7, .string (bs text), .int .u64 0, .string ⟨#[]⟩, .string ⟨#[]⟩, .string ⟨#[]⟩]) (.agg #[.int .i64 7, .string (bs text), .int .u64 bits, .string (bs cls), .string (bs name), .string (bs desc)])).run Try.prog x = .ok true x := fun x => (eq_val (Pv.mk 7 text 0 [] [] []) (Pv.mk 7 text bits cls name desc) x).trans (by rw [decide_eq_true (hiff.2 hz)])
    rw [if_pos hz]
    clear hz hiff
    go_enter Try.func33, Try.ntmps33
    go_wp2_with fail
    refine (form_any 7 _).mono ?_
    rintro e w1 ⟨rfl, rfl⟩
    simp only [show Pv.form 7 = 97 from by simp [Pv.form]]
    go_wp2
    go_ret
    exact ⟨rfl, k1.out⟩
  · have he : ∀ x, (Op.equalIn 10000 25 (.agg #[.int .i64 7, .string (bs text), .int .u64 0, .string ⟨#[]⟩, .string ⟨#[]⟩, .string ⟨#[]⟩]) (.agg #[.int .i64 7, .string (bs text), .int .u64 bits, .string (bs cls), .string (bs name), .string (bs desc)])).run Try.prog x = .ok false x := fun x => (eq_val (Pv.mk 7 text 0 [] [] []) (Pv.mk 7 text bits cls name desc) x).trans (by rw [decide_eq_false (fun h => hz (hiff.1 h))])
    rw [if_neg hz]
    clear hz hiff
    go_enter Try.func33, Try.ntmps33
    go_wp2_with fail
    refine (form_any 7 _).mono ?_
    rintro e w1 ⟨rfl, rfl⟩
    simp only [show Pv.form 7 = 97 from by simp [Pv.form]]
    go_wp2
    go_ret
    exact ⟨rfl, k1.out⟩
set_option maxHeartbeats 4000000 in
set_option maxRecDepth 100000 in
theorem rcheck_8 (text : List UInt8) (bits : Nat) (cls name desc : List UInt8) (w : World) :
    Calls Try.prog 33 #[.agg #[.int .i64 8, .string (bs text), .int .u64 bits, .string (bs cls), .string (bs name), .string (bs desc)]] w fun e w' => e = .returned (.int .i64 (if bits = 0 ∧ cls = [] ∧ name = [] ∧ desc = [] then 0 else 9)) ∧ Below w.heap.size w w' := by
  have k1 := Lib.hid (Below.alloc' ((Below.refl w.heap.size w).alloc (Nat.le_refl _) (.cells #[.int .i64 8, .string (bs text), .int .u64 bits, .string (bs cls), .string (bs name), .string (bs desc)] 25)) (Nat.le_refl _) (.cells #[.int .i64 8, .string (bs text), .int .u64 0, .string ⟨#[]⟩, .string ⟨#[]⟩, .string ⟨#[]⟩] 25))
  have hiff : Pv.mk 8 text 0 [] [] [] = Pv.mk 8 text bits cls name desc ↔ (bits = 0 ∧ cls = [] ∧ name = [] ∧ desc = []) := by
    simp only [Pv.mk.injEq, true_and, and_true]
    constructor <;> (intro h; simp_all)
  by_cases hz : bits = 0 ∧ cls = [] ∧ name = [] ∧ desc = []
  · have he : ∀ x, (Op.equalIn 10000 25 (.agg #[.int .i64 8, .string (bs text), .int .u64 0, .string ⟨#[]⟩, .string ⟨#[]⟩, .string ⟨#[]⟩]) (.agg #[.int .i64 8, .string (bs text), .int .u64 bits, .string (bs cls), .string (bs name), .string (bs desc)])).run Try.prog x = .ok true x := fun x => (eq_val (Pv.mk 8 text 0 [] [] []) (Pv.mk 8 text bits cls name desc) x).trans (by rw [decide_eq_true (hiff.2 hz)])
    rw [if_pos hz]
    clear hz hiff
    go_enter Try.func33, Try.ntmps33
    go_wp2_with fail
    refine (form_any 8 _).mono ?_
    rintro e w1 ⟨rfl, rfl⟩
    simp only [show Pv.form 8 = 97 from by simp [Pv.form]]
    go_wp2
    go_ret
    exact ⟨rfl, k1.out⟩
  · have he : ∀ x, (Op.equalIn 10000 25 (.agg #[.int .i64 8, .string (bs text), .int .u64 0, .string ⟨#[]⟩, .string ⟨#[]⟩, .string ⟨#[]⟩]) (.agg #[.int .i64 8, .string (bs text), .int .u64 bits, .string (bs cls), .string (bs name), .string (bs desc)])).run Try.prog x = .ok false x := fun x => (eq_val (Pv.mk 8 text 0 [] [] []) (Pv.mk 8 text bits cls name desc) x).trans (by rw [decide_eq_false (fun h => hz (hiff.1 h))])
    rw [if_neg hz]
    clear hz hiff
    go_enter Try.func33, Try.ntmps33
    go_wp2_with fail
    refine (form_any 8 _).mono ?_
    rintro e w1 ⟨rfl, rfl⟩
    simp only [show Pv.form 8 = 97 from by simp [Pv.form]]
    go_wp2
    go_ret
    exact ⟨rfl, k1.out⟩
set_option maxHeartbeats 4000000 in
set_option maxRecDepth 100000 in
theorem rcheck_3 (text : List UInt8) (bits : Nat) (cls name desc : List UInt8) (w : World) :
    Calls Try.prog 33 #[.agg #[.int .i64 3, .string (bs text), .int .u64 bits, .string (bs cls), .string (bs name), .string (bs desc)]] w fun e w' => e = .returned (.int .i64 (if text = [] ∧ cls = [] ∧ name = [] ∧ desc = [] then (if 4294967296 ≤ bits then 5 else 0) else 9)) ∧ Below w.heap.size w w' := by
  have k1 := Lib.hid (Below.alloc' ((Below.refl w.heap.size w).alloc (Nat.le_refl _) (.cells #[.int .i64 3, .string (bs text), .int .u64 bits, .string (bs cls), .string (bs name), .string (bs desc)] 25)) (Nat.le_refl _) (.cells #[.int .i64 3, .string ⟨#[]⟩, .int .u64 bits, .string ⟨#[]⟩, .string ⟨#[]⟩, .string ⟨#[]⟩] 25))
  have hiff : Pv.mk 3 [] bits [] [] [] = Pv.mk 3 text bits cls name desc ↔ (text = [] ∧ cls = [] ∧ name = [] ∧ desc = []) := by
    simp only [Pv.mk.injEq, true_and, and_true]
    constructor <;> (intro h; simp_all)
  by_cases hz : text = [] ∧ cls = [] ∧ name = [] ∧ desc = []
  · have he : ∀ x, (Op.equalIn 10000 25 (.agg #[.int .i64 3, .string ⟨#[]⟩, .int .u64 bits, .string ⟨#[]⟩, .string ⟨#[]⟩, .string ⟨#[]⟩]) (.agg #[.int .i64 3, .string (bs text), .int .u64 bits, .string (bs cls), .string (bs name), .string (bs desc)])).run Try.prog x = .ok true x := fun x => (eq_val (Pv.mk 3 [] bits [] [] []) (Pv.mk 3 text bits cls name desc) x).trans (by rw [decide_eq_true (hiff.2 hz)])
    rw [if_pos hz]
    clear hz hiff
    by_cases hr : 4294967296 ≤ bits
    · have hs : decide ((4294967296 : Int) ≤ (bits : Int)) = true := decide_eq_true (by omega)
      rw [if_pos hr]
      clear hr
      go_enter Try.func33, Try.ntmps33
      go_wp2_with fail
      refine (form_any 3 _).mono ?_
      rintro e w1 ⟨rfl, rfl⟩
      simp only [show Pv.form 3 = 52 from by simp [Pv.form]]
      go_wp2
      go_ret
      exact ⟨rfl, k1.out⟩
    · have hs : decide ((4294967296 : Int) ≤ (bits : Int)) = false := decide_eq_false (by omega)
      rw [if_neg hr]
      clear hr
      go_enter Try.func33, Try.ntmps33
      go_wp2_with fail
      refine (form_any 3 _).mono ?_
      rintro e w1 ⟨rfl, rfl⟩
      simp only [show Pv.form 3 = 52 from by simp [Pv.form]]
      go_wp2
      go_ret
      exact ⟨rfl, k1.out⟩
  · have he : ∀ x, (Op.equalIn 10000 25 (.agg #[.int .i64 3, .string ⟨#[]⟩, .int .u64 bits, .string ⟨#[]⟩, .string ⟨#[]⟩, .string ⟨#[]⟩]) (.agg #[.int .i64 3, .string (bs text), .int .u64 bits, .string (bs cls), .string (bs name), .string (bs desc)])).run Try.prog x = .ok false x := fun x => (eq_val (Pv.mk 3 [] bits [] [] []) (Pv.mk 3 text bits cls name desc) x).trans (by rw [decide_eq_false (fun h => hz (hiff.1 h))])
    rw [if_neg hz]
    clear hz hiff
    go_enter Try.func33, Try.ntmps33
    go_wp2_with fail
    refine (form_any 3 _).mono ?_
    rintro e w1 ⟨rfl, rfl⟩
    simp only [show Pv.form 3 = 52 from by simp [Pv.form]]
    go_wp2
    go_ret
    exact ⟨rfl, k1.out⟩
set_option maxHeartbeats 4000000 in
set_option maxRecDepth 100000 in
theorem rcheck_4 (text : List UInt8) (bits : Nat) (cls name desc : List UInt8) (w : World) :
    Calls Try.prog 33 #[.agg #[.int .i64 4, .string (bs text), .int .u64 bits, .string (bs cls), .string (bs name), .string (bs desc)]] w fun e w' => e = .returned (.int .i64 (if text = [] ∧ cls = [] ∧ name = [] ∧ desc = [] then (if 4294967296 ≤ bits then 5 else 0) else 9)) ∧ Below w.heap.size w w' := by
  have k1 := Lib.hid (Below.alloc' ((Below.refl w.heap.size w).alloc (Nat.le_refl _) (.cells #[.int .i64 4, .string (bs text), .int .u64 bits, .string (bs cls), .string (bs name), .string (bs desc)] 25)) (Nat.le_refl _) (.cells #[.int .i64 4, .string ⟨#[]⟩, .int .u64 bits, .string ⟨#[]⟩, .string ⟨#[]⟩, .string ⟨#[]⟩] 25))
  have hiff : Pv.mk 4 [] bits [] [] [] = Pv.mk 4 text bits cls name desc ↔ (text = [] ∧ cls = [] ∧ name = [] ∧ desc = []) := by
    simp only [Pv.mk.injEq, true_and, and_true]
    constructor <;> (intro h; simp_all)
  by_cases hz : text = [] ∧ cls = [] ∧ name = [] ∧ desc = []
  · have he : ∀ x, (Op.equalIn 10000 25 (.agg #[.int .i64 4, .string ⟨#[]⟩, .int .u64 bits, .string ⟨#[]⟩, .string ⟨#[]⟩, .string ⟨#[]⟩]) (.agg #[.int .i64 4, .string (bs text), .int .u64 bits, .string (bs cls), .string (bs name), .string (bs desc)])).run Try.prog x = .ok true x := fun x => (eq_val (Pv.mk 4 [] bits [] [] []) (Pv.mk 4 text bits cls name desc) x).trans (by rw [decide_eq_true (hiff.2 hz)])
    rw [if_pos hz]
    clear hz hiff
    by_cases hr : 4294967296 ≤ bits
    · have hs : decide ((4294967296 : Int) ≤ (bits : Int)) = true := decide_eq_true (by omega)
      rw [if_pos hr]
      clear hr
      go_enter Try.func33, Try.ntmps33
      go_wp2_with fail
      refine (form_any 4 _).mono ?_
      rintro e w1 ⟨rfl, rfl⟩
      simp only [show Pv.form 4 = 52 from by simp [Pv.form]]
      go_wp2
      go_ret
      exact ⟨rfl, k1.out⟩
    · have hs : decide ((4294967296 : Int) ≤ (bits : Int)) = false := decide_eq_false (by omega)
      rw [if_neg hr]
      clear hr
      go_enter Try.func33, Try.ntmps33
      go_wp2_with fail
      refine (form_any 4 _).mono ?_
      rintro e w1 ⟨rfl, rfl⟩
      simp only [show Pv.form 4 = 52 from by simp [Pv.form]]
      go_wp2
      go_ret
      exact ⟨rfl, k1.out⟩
  · have he : ∀ x, (Op.equalIn 10000 25 (.agg #[.int .i64 4, .string ⟨#[]⟩, .int .u64 bits, .string ⟨#[]⟩, .string ⟨#[]⟩, .string ⟨#[]⟩]) (.agg #[.int .i64 4, .string (bs text), .int .u64 bits, .string (bs cls), .string (bs name), .string (bs desc)])).run Try.prog x = .ok false x := fun x => (eq_val (Pv.mk 4 [] bits [] [] []) (Pv.mk 4 text bits cls name desc) x).trans (by rw [decide_eq_false (fun h => hz (hiff.1 h))])
    rw [if_neg hz]
    clear hz hiff
    go_enter Try.func33, Try.ntmps33
    go_wp2_with fail
    refine (form_any 4 _).mono ?_
    rintro e w1 ⟨rfl, rfl⟩
    simp only [show Pv.form 4 = 52 from by simp [Pv.form]]
    go_wp2
    go_ret
    exact ⟨rfl, k1.out⟩
set_option maxHeartbeats 4000000 in
set_option maxRecDepth 100000 in
theorem rcheck_5 (text : List UInt8) (bits : Nat) (cls name desc : List UInt8) (w : World) :
    Calls Try.prog 33 #[.agg #[.int .i64 5, .string (bs text), .int .u64 bits, .string (bs cls), .string (bs name), .string (bs desc)]] w fun e w' => e = .returned (.int .i64 (if text = [] ∧ cls = [] ∧ name = [] ∧ desc = [] then 0 else 9)) ∧ Below w.heap.size w w' := by
  have k1 := Lib.hid (Below.alloc' ((Below.refl w.heap.size w).alloc (Nat.le_refl _) (.cells #[.int .i64 5, .string (bs text), .int .u64 bits, .string (bs cls), .string (bs name), .string (bs desc)] 25)) (Nat.le_refl _) (.cells #[.int .i64 5, .string ⟨#[]⟩, .int .u64 bits, .string ⟨#[]⟩, .string ⟨#[]⟩, .string ⟨#[]⟩] 25))
  have hiff : Pv.mk 5 [] bits [] [] [] = Pv.mk 5 text bits cls name desc ↔ (text = [] ∧ cls = [] ∧ name = [] ∧ desc = []) := by
    simp only [Pv.mk.injEq, true_and, and_true]
    constructor <;> (intro h; simp_all)
  by_cases hz : text = [] ∧ cls = [] ∧ name = [] ∧ desc = []
  · have he : ∀ x, (Op.equalIn 10000 25 (.agg #[.int .i64 5, .string ⟨#[]⟩, .int .u64 bits, .string ⟨#[]⟩, .string ⟨#[]⟩, .string ⟨#[]⟩]) (.agg #[.int .i64 5, .string (bs text), .int .u64 bits, .string (bs cls), .string (bs name), .string (bs desc)])).run Try.prog x = .ok true x := fun x => (eq_val (Pv.mk 5 [] bits [] [] []) (Pv.mk 5 text bits cls name desc) x).trans (by rw [decide_eq_true (hiff.2 hz)])
    rw [if_pos hz]
    clear hz hiff
    go_enter Try.func33, Try.ntmps33
    go_wp2_with fail
    refine (form_any 5 _).mono ?_
    rintro e w1 ⟨rfl, rfl⟩
    simp only [show Pv.form 5 = 56 from by simp [Pv.form]]
    go_wp2
    go_ret
    exact ⟨rfl, k1.out⟩
  · have he : ∀ x, (Op.equalIn 10000 25 (.agg #[.int .i64 5, .string ⟨#[]⟩, .int .u64 bits, .string ⟨#[]⟩, .string ⟨#[]⟩, .string ⟨#[]⟩]) (.agg #[.int .i64 5, .string (bs text), .int .u64 bits, .string (bs cls), .string (bs name), .string (bs desc)])).run Try.prog x = .ok false x := fun x => (eq_val (Pv.mk 5 [] bits [] [] []) (Pv.mk 5 text bits cls name desc) x).trans (by rw [decide_eq_false (fun h => hz (hiff.1 h))])
    rw [if_neg hz]
    clear hz hiff
    go_enter Try.func33, Try.ntmps33
    go_wp2_with fail
    refine (form_any 5 _).mono ?_
    rintro e w1 ⟨rfl, rfl⟩
    simp only [show Pv.form 5 = 56 from by simp [Pv.form]]
    go_wp2
    go_ret
    exact ⟨rfl, k1.out⟩
set_option maxHeartbeats 4000000 in
set_option maxRecDepth 100000 in
theorem rcheck_6 (text : List UInt8) (bits : Nat) (cls name desc : List UInt8) (w : World) :
    Calls Try.prog 33 #[.agg #[.int .i64 6, .string (bs text), .int .u64 bits, .string (bs cls), .string (bs name), .string (bs desc)]] w fun e w' => e = .returned (.int .i64 (if text = [] ∧ cls = [] ∧ name = [] ∧ desc = [] then 0 else 9)) ∧ Below w.heap.size w w' := by
  have k1 := Lib.hid (Below.alloc' ((Below.refl w.heap.size w).alloc (Nat.le_refl _) (.cells #[.int .i64 6, .string (bs text), .int .u64 bits, .string (bs cls), .string (bs name), .string (bs desc)] 25)) (Nat.le_refl _) (.cells #[.int .i64 6, .string ⟨#[]⟩, .int .u64 bits, .string ⟨#[]⟩, .string ⟨#[]⟩, .string ⟨#[]⟩] 25))
  have hiff : Pv.mk 6 [] bits [] [] [] = Pv.mk 6 text bits cls name desc ↔ (text = [] ∧ cls = [] ∧ name = [] ∧ desc = []) := by
    simp only [Pv.mk.injEq, true_and, and_true]
    constructor <;> (intro h; simp_all)
  by_cases hz : text = [] ∧ cls = [] ∧ name = [] ∧ desc = []
  · have he : ∀ x, (Op.equalIn 10000 25 (.agg #[.int .i64 6, .string ⟨#[]⟩, .int .u64 bits, .string ⟨#[]⟩, .string ⟨#[]⟩, .string ⟨#[]⟩]) (.agg #[.int .i64 6, .string (bs text), .int .u64 bits, .string (bs cls), .string (bs name), .string (bs desc)])).run Try.prog x = .ok true x := fun x => (eq_val (Pv.mk 6 [] bits [] [] []) (Pv.mk 6 text bits cls name desc) x).trans (by rw [decide_eq_true (hiff.2 hz)])
    rw [if_pos hz]
    clear hz hiff
    go_enter Try.func33, Try.ntmps33
    go_wp2_with fail
    refine (form_any 6 _).mono ?_
    rintro e w1 ⟨rfl, rfl⟩
    simp only [show Pv.form 6 = 56 from by simp [Pv.form]]
    go_wp2
    go_ret
    exact ⟨rfl, k1.out⟩
  · have he : ∀ x, (Op.equalIn 10000 25 (.agg #[.int .i64 6, .string ⟨#[]⟩, .int .u64 bits, .string ⟨#[]⟩, .string ⟨#[]⟩, .string ⟨#[]⟩]) (.agg #[.int .i64 6, .string (bs text), .int .u64 bits, .string (bs cls), .string (bs name), .string (bs desc)])).run Try.prog x = .ok false x := fun x => (eq_val (Pv.mk 6 [] bits [] [] []) (Pv.mk 6 text bits cls name desc) x).trans (by rw [decide_eq_false (fun h => hz (hiff.1 h))])
    rw [if_neg hz]
    clear hz hiff
    go_enter Try.func33, Try.ntmps33
    go_wp2_with fail
    refine (form_any 6 _).mono ?_
    rintro e w1 ⟨rfl, rfl⟩
    simp only [show Pv.form 6 = 56 from by simp [Pv.form]]
    go_wp2
    go_ret
    exact ⟨rfl, k1.out⟩
set_option maxHeartbeats 4000000 in
set_option maxRecDepth 100000 in
theorem rcheck_12 (text : List UInt8) (bits : Nat) (cls name desc : List UInt8) (w : World) :
    Calls Try.prog 33 #[.agg #[.int .i64 12, .string (bs text), .int .u64 bits, .string (bs cls), .string (bs name), .string (bs desc)]] w fun e w' => e = .returned (.int .i64 (if text = [] ∧ bits = 0 ∧ cls = [] then 0 else 9)) ∧ Below w.heap.size w w' := by
  have k1 := Lib.hid (Below.alloc' ((Below.refl w.heap.size w).alloc (Nat.le_refl _) (.cells #[.int .i64 12, .string (bs text), .int .u64 bits, .string (bs cls), .string (bs name), .string (bs desc)] 25)) (Nat.le_refl _) (.cells #[.int .i64 12, .string ⟨#[]⟩, .int .u64 0, .string ⟨#[]⟩, .string (bs name), .string (bs desc)] 25))
  have hiff : Pv.mk 12 [] 0 [] name desc = Pv.mk 12 text bits cls name desc ↔ (text = [] ∧ bits = 0 ∧ cls = []) := by
    simp only [Pv.mk.injEq, true_and, and_true]
    constructor <;> (intro h; simp_all)
  by_cases hz : text = [] ∧ bits = 0 ∧ cls = []
  · have he : ∀ x, (Op.equalIn 10000 25 (.agg #[.int .i64 12, .string ⟨#[]⟩, .int .u64 0, .string ⟨#[]⟩, .string (bs name), .string (bs desc)]) (.agg #[.int .i64 12, .string (bs text), .int .u64 bits, .string (bs cls), .string (bs name), .string (bs desc)])).run Try.prog x = .ok true x := fun x => (eq_val (Pv.mk 12 [] 0 [] name desc) (Pv.mk 12 text bits cls name desc) x).trans (by rw [decide_eq_true (hiff.2 hz)])
    rw [if_pos hz]
    clear hz hiff
    go_enter Try.func33, Try.ntmps33
    go_wp2_with fail
    refine (form_any 12 _).mono ?_
    rintro e w1 ⟨rfl, rfl⟩
    simp only [show Pv.form 12 = 98 from by simp [Pv.form]]
    go_wp2_with fail
    go_region
    go_wp2
    go_ret
    exact ⟨rfl, k1.out.drew⟩
  · have he : ∀ x, (Op.equalIn 10000 25 (.agg #[.int .i64 12, .string ⟨#[]⟩, .int .u64 0, .string ⟨#[]⟩, .string (bs name), .string (bs desc)]) (.agg #[.int .i64 12, .string (bs text), .int .u64 bits, .string (bs cls), .string (bs name), .string (bs desc)])).run Try.prog x = .ok false x := fun x => (eq_val (Pv.mk 12 [] 0 [] name desc) (Pv.mk 12 text bits cls name desc) x).trans (by rw [decide_eq_false (fun h => hz (hiff.1 h))])
    rw [if_neg hz]
    clear hz hiff
    go_enter Try.func33, Try.ntmps33
    go_wp2_with fail
    refine (form_any 12 _).mono ?_
    rintro e w1 ⟨rfl, rfl⟩
    simp only [show Pv.form 12 = 98 from by simp [Pv.form]]
    go_wp2_with fail
    go_region
    go_wp2
    go_ret
    exact ⟨rfl, k1.out.drew⟩
set_option maxHeartbeats 4000000 in
set_option maxRecDepth 100000 in
theorem rcheck_9 (text : List UInt8) (bits : Nat) (cls name desc : List UInt8) (w : World) :
    Calls Try.prog 33 #[.agg #[.int .i64 9, .string (bs text), .int .u64 bits, .string (bs cls), .string (bs name), .string (bs desc)]] w fun e w' => e = .returned (.int .i64 (if text = [] ∧ bits = 0 then 0 else 9)) ∧ Below w.heap.size w w' := by
  have k1 := Lib.hid (Below.alloc' ((Below.refl w.heap.size w).alloc (Nat.le_refl _) (.cells #[.int .i64 9, .string (bs text), .int .u64 bits, .string (bs cls), .string (bs name), .string (bs desc)] 25)) (Nat.le_refl _) (.cells #[.int .i64 9, .string ⟨#[]⟩, .int .u64 0, .string (bs cls), .string (bs name), .string (bs desc)] 25))
  have hiff : Pv.mk 9 [] 0 cls name desc = Pv.mk 9 text bits cls name desc ↔ (text = [] ∧ bits = 0) := by
    simp only [Pv.mk.injEq, true_and, and_true]
    constructor <;> (intro h; simp_all)
  by_cases hz : text = [] ∧ bits = 0
  · have he : ∀ x, (Op.equalIn 10000 25 (.agg #[.int .i64 9, .string ⟨#[]⟩, .int .u64 0, .string (bs cls), .string (bs name), .string (bs desc)]) (.agg #[.int .i64 9, .string (bs text), .int .u64 bits, .string (bs cls), .string (bs name), .string (bs desc)])).run Try.prog x = .ok true x := fun x => (eq_val (Pv.mk 9 [] 0 cls name desc) (Pv.mk 9 text bits cls name desc) x).trans (by rw [decide_eq_true (hiff.2 hz)])
    rw [if_pos hz]
    clear hz hiff
    go_enter Try.func33, Try.ntmps33
    go_wp2_with fail
    refine (form_any 9 _).mono ?_
    rintro e w1 ⟨rfl, rfl⟩
    simp only [show Pv.form 9 = 98 from by simp [Pv.form]]
    go_wp2_with fail
    go_region
    go_wp2
    go_ret
    exact ⟨rfl, k1.out.drew⟩
  · have he : ∀ x, (Op.equalIn 10000 25 (.agg #[.int .i64 9, .string ⟨#[]⟩, .int .u64 0, .string (bs cls), .string (bs name), .string (bs desc)]) (.agg #[.int .i64 9, .string (bs text), .int .u64 bits, .string (bs cls), .string (bs name), .string (bs desc)])).run Try.prog x = .ok false x := fun x => (eq_val (Pv.mk 9 [] 0 cls name desc) (Pv.mk 9 text bits cls name desc) x).trans (by rw [decide_eq_false (fun h => hz (hiff.1 h))])
    rw [if_neg hz]
    clear hz hiff
    go_enter Try.func33, Try.ntmps33
    go_wp2_with fail
    refine (form_any 9 _).mono ?_
    rintro e w1 ⟨rfl, rfl⟩
    simp only [show Pv.form 9 = 98 from by simp [Pv.form]]
    go_wp2_with fail
    go_region
    go_wp2
    go_ret
    exact ⟨rfl, k1.out.drew⟩
set_option maxHeartbeats 4000000 in
set_option maxRecDepth 100000 in
theorem rcheck_10 (text : List UInt8) (bits : Nat) (cls name desc : List UInt8) (w : World) :
    Calls Try.prog 33 #[.agg #[.int .i64 10, .string (bs text), .int .u64 bits, .string (bs cls), .string (bs name), .string (bs desc)]] w fun e w' => e = .returned (.int .i64 (if text = [] ∧ bits = 0 then 0 else 9)) ∧ Below w.heap.size w w' := by
  have k1 := Lib.hid (Below.alloc' ((Below.refl w.heap.size w).alloc (Nat.le_refl _) (.cells #[.int .i64 10, .string (bs text), .int .u64 bits, .string (bs cls), .string (bs name), .string (bs desc)] 25)) (Nat.le_refl _) (.cells #[.int .i64 10, .string ⟨#[]⟩, .int .u64 0, .string (bs cls), .string (bs name), .string (bs desc)] 25))
  have hiff : Pv.mk 10 [] 0 cls name desc = Pv.mk 10 text bits cls name desc ↔ (text = [] ∧ bits = 0) := by
    simp only [Pv.mk.injEq, true_and, and_true]
    constructor <;> (intro h; simp_all)
  by_cases hz : text = [] ∧ bits = 0
  · have he : ∀ x, (Op.equalIn 10000 25 (.agg #[.int .i64 10, .string ⟨#[]⟩, .int .u64 0, .string (bs cls), .string (bs name), .string (bs desc)]) (.agg #[.int .i64 10, .string (bs text), .int .u64 bits, .string (bs cls), .string (bs name), .string (bs desc)])).run Try.prog x = .ok true x := fun x => (eq_val (Pv.mk 10 [] 0 cls name desc) (Pv.mk 10 text bits cls name desc) x).trans (by rw [decide_eq_true (hiff.2 hz)])
    rw [if_pos hz]
    clear hz hiff
    go_enter Try.func33, Try.ntmps33
    go_wp2_with fail
    refine (form_any 10 _).mono ?_
    rintro e w1 ⟨rfl, rfl⟩
    simp only [show Pv.form 10 = 98 from by simp [Pv.form]]
    go_wp2_with fail
    go_region
    go_wp2
    go_ret
    exact ⟨rfl, k1.out.drew⟩
  · have he : ∀ x, (Op.equalIn 10000 25 (.agg #[.int .i64 10, .string ⟨#[]⟩, .int .u64 0, .string (bs cls), .string (bs name), .string (bs desc)]) (.agg #[.int .i64 10, .string (bs text), .int .u64 bits, .string (bs cls), .string (bs name), .string (bs desc)])).run Try.prog x = .ok false x := fun x => (eq_val (Pv.mk 10 [] 0 cls name desc) (Pv.mk 10 text bits cls name desc) x).trans (by rw [decide_eq_false (fun h => hz (hiff.1 h))])
    rw [if_neg hz]
    clear hz hiff
    go_enter Try.func33, Try.ntmps33
    go_wp2_with fail
    refine (form_any 10 _).mono ?_
    rintro e w1 ⟨rfl, rfl⟩
    simp only [show Pv.form 10 = 98 from by simp [Pv.form]]
    go_wp2_with fail
    go_region
    go_wp2
    go_ret
    exact ⟨rfl, k1.out.drew⟩
set_option maxHeartbeats 4000000 in
set_option maxRecDepth 100000 in
theorem rcheck_11 (text : List UInt8) (bits : Nat) (cls name desc : List UInt8) (w : World) :
    Calls Try.prog 33 #[.agg #[.int .i64 11, .string (bs text), .int .u64 bits, .string (bs cls), .string (bs name), .string (bs desc)]] w fun e w' => e = .returned (.int .i64 (if text = [] ∧ bits = 0 then 0 else 9)) ∧ Below w.heap.size w w' := by
  have k1 := Lib.hid (Below.alloc' ((Below.refl w.heap.size w).alloc (Nat.le_refl _) (.cells #[.int .i64 11, .string (bs text), .int .u64 bits, .string (bs cls), .string (bs name), .string (bs desc)] 25)) (Nat.le_refl _) (.cells #[.int .i64 11, .string ⟨#[]⟩, .int .u64 0, .string (bs cls), .string (bs name), .string (bs desc)] 25))
  have hiff : Pv.mk 11 [] 0 cls name desc = Pv.mk 11 text bits cls name desc ↔ (text = [] ∧ bits = 0) := by
    simp only [Pv.mk.injEq, true_and, and_true]
    constructor <;> (intro h; simp_all)
  by_cases hz : text = [] ∧ bits = 0
  · have he : ∀ x, (Op.equalIn 10000 25 (.agg #[.int .i64 11, .string ⟨#[]⟩, .int .u64 0, .string (bs cls), .string (bs name), .string (bs desc)]) (.agg #[.int .i64 11, .string (bs text), .int .u64 bits, .string (bs cls), .string (bs name), .string (bs desc)])).run Try.prog x = .ok true x := fun x => (eq_val (Pv.mk 11 [] 0 cls name desc) (Pv.mk 11 text bits cls name desc) x).trans (by rw [decide_eq_true (hiff.2 hz)])
    rw [if_pos hz]
    clear hz hiff
    go_enter Try.func33, Try.ntmps33
    go_wp2_with fail
    refine (form_any 11 _).mono ?_
    rintro e w1 ⟨rfl, rfl⟩
    simp only [show Pv.form 11 = 98 from by simp [Pv.form]]
    go_wp2_with fail
    go_region
    go_wp2
    go_ret
    exact ⟨rfl, k1.out.drew⟩
  · have he : ∀ x, (Op.equalIn 10000 25 (.agg #[.int .i64 11, .string ⟨#[]⟩, .int .u64 0, .string (bs cls), .string (bs name), .string (bs desc)]) (.agg #[.int .i64 11, .string (bs text), .int .u64 bits, .string (bs cls), .string (bs name), .string (bs desc)])).run Try.prog x = .ok false x := fun x => (eq_val (Pv.mk 11 [] 0 cls name desc) (Pv.mk 11 text bits cls name desc) x).trans (by rw [decide_eq_false (fun h => hz (hiff.1 h))])
    rw [if_neg hz]
    clear hz hiff
    go_enter Try.func33, Try.ntmps33
    go_wp2_with fail
    refine (form_any 11 _).mono ?_
    rintro e w1 ⟨rfl, rfl⟩
    simp only [show Pv.form 11 = 98 from by simp [Pv.form]]
    go_wp2_with fail
    go_region
    go_wp2
    go_ret
    exact ⟨rfl, k1.out.drew⟩
theorem rcheck_no (tag : Int) (text : List UInt8) (bits : Nat) (cls name desc : List UInt8) (w : World) (n1 : ¬ (tag = 1 ∨ tag = 7 ∨ tag = 8)) (n2 : ¬ (tag = 3 ∨ tag = 4 ∨ tag = 5 ∨ tag = 6)) (n3 : ¬ tag = 12) (n4 : ¬ (tag = 9 ∨ tag = 10 ∨ tag = 11)) :
    Calls Try.prog 33 #[.agg #[.int .i64 tag, .string (bs text), .int .u64 bits, .string (bs cls), .string (bs name), .string (bs desc)]] w fun e w' => e = .returned (.int .i64 9) ∧ Below w.heap.size w w' := by
  have k1 := Lib.hid ((Below.refl w.heap.size w).alloc (Nat.le_refl _) (.cells #[.int .i64 tag, .string (bs text), .int .u64 bits, .string (bs cls), .string (bs name), .string (bs desc)] 25))
  have hf : Pv.form tag = 0 := by unfold Pv.form; rw [if_neg (by omega), if_neg (by omega), if_neg (by omega), if_neg (by omega), if_neg (by omega)]
  clear n1 n2 n3 n4
  go_enter Try.func33, Try.ntmps33
  go_wp2_with fail
  refine (form_any tag _).mono ?_
  rintro e w1 ⟨rfl, rfl⟩
  simp only [hf]
  go_wp2
  go_ret
  exact ⟨rfl, k1.out⟩
theorem rcheck_any (v : Pv) (w : World) : Calls Try.prog 33 #[vv v] w fun e w' => e = .returned (.int .i64 (v.chk 0 9 5)) ∧ Below w.heap.size w w' := by
  obtain ⟨tag, text, bits, cls, name, desc⟩ := v
  unfold Pv.chk
  dsimp only
  split
  · rename_i h
    rcases h with rfl | rfl | rfl
    · exact rcheck_1 text bits cls name desc w
    · exact rcheck_7 text bits cls name desc w
    · exact rcheck_8 text bits cls name desc w
  · rename_i n1
    split
    · rename_i h
      rcases h with rfl | rfl | rfl | rfl
      · have := rcheck_3 text bits cls name desc w
        simp only [Int.reduceEq, or_false, false_or, true_or, or_true, true_and, false_and, if_false, or_self]
        exact this
      · have := rcheck_4 text bits cls name desc w
        simp only [Int.reduceEq, or_false, false_or, true_or, or_true, true_and, false_and, if_false, or_self]
        exact this
      · have := rcheck_5 text bits cls name desc w
        simp only [Int.reduceEq, or_false, false_or, true_or, or_true, true_and, false_and, if_false, or_self]
        exact this
      · have := rcheck_6 text bits cls name desc w
        simp only [Int.reduceEq, or_false, false_or, true_or, or_true, true_and, false_and, if_false, or_self]
        exact this
    · rename_i n2
      split
      · rename_i h; subst h; exact rcheck_12 text bits cls name desc w
      · rename_i n3
        split
        · rename_i h
          rcases h with rfl | rfl | rfl
          · exact rcheck_9 text bits cls name desc w
          · exact rcheck_10 text bits cls name desc w
          · exact rcheck_11 text bits cls name desc w
        · rename_i n4; exact rcheck_no tag text bits cls name desc w n1 n2 n3 n4
end Go.Proofs.Ytekcfjfkbiciaaa
