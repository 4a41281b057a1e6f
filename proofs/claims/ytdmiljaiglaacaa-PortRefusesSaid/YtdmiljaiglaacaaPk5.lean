/- Joined texts: RCheck, ROrder, Tab, TabS, GrowTail. -/
import Derived.Test.YtdmiljaiglaacaaPk4
import Derived.Deep.LoopGhost
import Derived.Test.YtdmiljaiglaacaaPk3
import Derived.Test.YtdmiljaiglaacaaPk1
import Derived.StillTail
/- The walk of layer 19: what is wrong with a value, by the document. Printed by mk_rcheck.py. -/
namespace Go.Proofs.Ytdmiljaiglaacaa
open Go.RowKit

def Pv.form (t : Int) : Int := if t = 1 then 116 else if t = 3 ∨ t = 4 then 52 else if t = 5 ∨ t = 6 then 56 else if t = 7 ∨ t = 8 then 97 else if t = 9 ∨ t = 10 ∨ t = 11 ∨ t = 12 then 98 else 0
set_option maxHeartbeats 1000000 in
theorem form_any (t : Int) (w : World) : Calls Try.prog 19 #[.int .i64 t] w fun e w' => e = .returned (.int .u8 (Pv.form t)) ∧ w' = w := by
  by_cases h : t = 1 ∨ t = 3 ∨ t = 4 ∨ t = 5 ∨ t = 6 ∨ t = 7 ∨ t = 8 ∨ t = 9 ∨ t = 10 ∨ t = 11 ∨ t = 12
  · rcases h with rfl | rfl | rfl | rfl | rfl | rfl | rfl | rfl | rfl | rfl | rfl <;>
    · go_enter Try.func19, Try.ntmps19
      go_wp2
      go_ret
      exact ⟨rfl, rfl⟩
  · have hf : Pv.form t = 0 := by unfold Pv.form; rw [if_neg (by omega), if_neg (by omega), if_neg (by omega), if_neg (by omega), if_neg (by omega)]
    have u1 : (t == 1) = false := by simp; omega
    have u7 : (t == 7) = false := by simp; omega
    have u8 : (t == 8) = false := by simp; omega
    have u3 : (t == 3) = false := by simp; omega
    have u4 : (t == 4) = false := by simp; omega
    have u5 : (t == 5) = false := by simp; omega
    have u6 : (t == 6) = false := by simp; omega
    have u12 : (t == 12) = false := by simp; omega
    have u9 : (t == 9) = false := by simp; omega
    have u10 : (t == 10) = false := by simp; omega
    have u11 : (t == 11) = false := by simp; omega
    clear h
    go_enter Try.func19, Try.ntmps19
    go_wp2
    go_ret
    exact ⟨by rw [hf]; rfl, rfl⟩
set_option maxHeartbeats 4000000 in
set_option maxRecDepth 100000 in
theorem rcheck_1 (text : List UInt8) (bits : Nat) (cls name desc : List UInt8) (w : World) :
    Calls Try.prog 8 #[.agg #[.int .i64 1, .string (bs text), .int .u64 bits, .string (bs cls), .string (bs name), .string (bs desc)]] w fun e w' => e = .returned (.int .i64 (if bits = 0 ∧ cls = [] ∧ name = [] ∧ desc = [] then 0 else 9)) ∧ Below w.heap.size w w' := by
  have k1 := Lib.hid (Below.alloc' ((Below.refl w.heap.size w).alloc (Nat.le_refl _) (.cells #[.int .i64 1, .string (bs text), .int .u64 bits, .string (bs cls), .string (bs name), .string (bs desc)] 28)) (Nat.le_refl _) (.cells #[.int .i64 1, .string (bs text), .int .u64 0, .string ⟨#[]⟩, .string ⟨#[]⟩, .string ⟨#[]⟩] 28))
  have hiff : Pv.mk 1 text 0 [] [] [] = Pv.mk 1 text bits cls name desc ↔ (bits = 0 ∧ cls = [] ∧ name = [] ∧ desc = []) := by
    simp only [Pv.mk.injEq, true_and, and_true]
    constructor <;> (intro h; simp_all)
  by_cases hz : bits = 0 ∧ cls = [] ∧ name = [] ∧ desc = []
  · have he : ∀ x, (Op.equalIn 10000 28 (.agg #[.int .i64 1, .string (bs text), .int .u64 0, .string ⟨#[]⟩, .string ⟨#[]⟩, .string ⟨#[]⟩]) (.agg #[.int .i64 1, .string (bs text), .int .u64 bits, .string (bs cls), .string (bs name), .string (bs desc)])).run Try.prog x = .ok true x := fun x => (eq_val (Pv.mk 1 text 0 [] [] []) (Pv.mk 1 text bits cls name desc) x).trans (by rw [decide_eq_true (hiff.2 hz)])
    have hs : decide ((4294967296 : Int) ≤ (bits : Int)) = false := decide_eq_false (by have := hz.1; omega)
    rw [if_pos hz]
    clear hz hiff
    go_enter Try.func8, Try.ntmps8
    go_wp2_with fail
    refine (form_any 1 _).mono ?_
    rintro e w1 ⟨rfl, rfl⟩
    simp only [show Pv.form 1 = 116 from by simp [Pv.form]]
    go_wp2
    go_ret
    exact ⟨rfl, k1.out⟩
  · have he : ∀ x, (Op.equalIn 10000 28 (.agg #[.int .i64 1, .string (bs text), .int .u64 0, .string ⟨#[]⟩, .string ⟨#[]⟩, .string ⟨#[]⟩]) (.agg #[.int .i64 1, .string (bs text), .int .u64 bits, .string (bs cls), .string (bs name), .string (bs desc)])).run Try.prog x = .ok false x := fun x => (eq_val (Pv.mk 1 text 0 [] [] []) (Pv.mk 1 text bits cls name desc) x).trans (by rw [decide_eq_false (fun h => hz (hiff.1 h))])
    rw [if_neg hz]
    clear hz hiff
    go_enter Try.func8, Try.ntmps8
    go_wp2_with fail
    refine (form_any 1 _).mono ?_
    rintro e w1 ⟨rfl, rfl⟩
    simp only [show Pv.form 1 = 116 from by simp [Pv.form]]
    go_wp2
    go_ret
    exact ⟨rfl, k1.out⟩
set_option maxHeartbeats 4000000 in
set_option maxRecDepth 100000 in
theorem rcheck_7 (text : List UInt8) (bits : Nat) (cls name desc : List UInt8) (w : World) :
    Calls Try.prog 8 #[.agg #[.int .i64 7, .string (bs text), .int .u64 bits, .string (bs cls), .string (bs name), .string (bs desc)]] w fun e w' => e = .returned (.int .i64 (if bits = 0 ∧ cls = [] ∧ name = [] ∧ desc = [] then 0 else 9)) ∧ Below w.heap.size w w' := by
  have k1 := Lib.hid (Below.alloc' ((Below.refl w.heap.size w).alloc (Nat.le_refl _) (.cells #[.int .i64 7, .string (bs text), .int .u64 bits, .string (bs cls), .string (bs name), .string (bs desc)] 28)) (Nat.le_refl _) (.cells #[.int .i64 7, .string (bs text), .int .u64 0, .string ⟨#[]⟩, .string ⟨#[]⟩, .string ⟨#[]⟩] 28))
  have hiff : Pv.mk 7 text 0 [] [] [] = Pv.mk 7 text bits cls name desc ↔ (bits = 0 ∧ cls = [] ∧ name = [] ∧ desc = []) := by
    simp only [Pv.mk.injEq, true_and, and_true]
    constructor <;> (intro h; simp_all)
  by_cases hz : bits = 0 ∧ cls = [] ∧ name = [] ∧ desc = []
  · have he : ∀ x, (Op.equalIn 10000 28 (.agg #[.int .i64 7, .string (bs text), .int .u64 0, .string ⟨#[]⟩, .string ⟨#[]⟩, .string ⟨#[]⟩]) (.agg #[.int .i64 7, .string (bs text), .int .u64 bits, .string (bs cls), .string (bs name), .string (bs desc)])).run Try.prog x = .ok true x := fun x => (eq_val (Pv.mk 7 text 0 [] [] []) (Pv.mk 7 text bits cls name desc) x).trans (by rw [decide_eq_true (hiff.2 hz)])
    rw [if_pos hz]
    clear hz hiff
    go_enter Try.func8, Try.ntmps8
    go_wp2_with fail
    refine (form_any 7 _).mono ?_
    rintro e w1 ⟨rfl, rfl⟩
    simp only [show Pv.form 7 = 97 from by simp [Pv.form]]
    go_wp2
    go_ret
    exact ⟨rfl, k1.out⟩
  · have he : ∀ x, (Op.equalIn 10000 28 (.agg #[.int .i64 7, .string (bs text), .int .u64 0, .string ⟨#[]⟩, .string ⟨#[]⟩, .string ⟨#[]⟩]) (.agg #[.int .i64 7, .string (bs text), .int .u64 bits, .string (bs cls), .string (bs name), .string (bs desc)])).run Try.prog x = .ok false x := fun x => (eq_val (Pv.mk 7 text 0 [] [] []) (Pv.mk 7 text bits cls name desc) x).trans (by rw [decide_eq_false (fun h => hz (hiff.1 h))])
    rw [if_neg hz]
    clear hz hiff
    go_enter Try.func8, Try.ntmps8
    go_wp2_with fail
    refine (form_any 7 _).mono ?_
    rintro e w1 ⟨rfl, rfl⟩
    simp only [show Pv.form 7 = 97 from by simp [Pv.form]]
    go_wp2
    go_ret
    exact ⟨rfl, k1.out⟩
set_option maxHeartbeats 4000000 in
set_option maxRecDepth 100000 in
theorem rcheck_8 (text : List UInt8) (bits : Nat) (cls name desc : List UInt8) (w : World) :
    Calls Try.prog 8 #[.agg #[.int .i64 8, .string (bs text), .int .u64 bits, .string (bs cls), .string (bs name), .string (bs desc)]] w fun e w' => e = .returned (.int .i64 (if bits = 0 ∧ cls = [] ∧ name = [] ∧ desc = [] then 0 else 9)) ∧ Below w.heap.size w w' := by
  have k1 := Lib.hid (Below.alloc' ((Below.refl w.heap.size w).alloc (Nat.le_refl _) (.cells #[.int .i64 8, .string (bs text), .int .u64 bits, .string (bs cls), .string (bs name), .string (bs desc)] 28)) (Nat.le_refl _) (.cells #[.int .i64 8, .string (bs text), .int .u64 0, .string ⟨#[]⟩, .string ⟨#[]⟩, .string ⟨#[]⟩] 28))
  have hiff : Pv.mk 8 text 0 [] [] [] = Pv.mk 8 text bits cls name desc ↔ (bits = 0 ∧ cls = [] ∧ name = [] ∧ desc = []) := by
    simp only [Pv.mk.injEq, true_and, and_true]
    constructor <;> (intro h; simp_all)
  by_cases hz : bits = 0 ∧ cls = [] ∧ name = [] ∧ desc = []
  · have he : ∀ x, (Op.equalIn 10000 28 (.agg #[.int .i64 8, .string (bs text), .int .u64 0, .string ⟨#[]⟩, .string ⟨#[]⟩, .string ⟨#[]⟩]) (.agg #[.int .i64 8, .string (bs text), .int .u64 bits, .string (bs cls), .string (bs name), .string (bs desc)])).run Try.prog x = .ok true x := fun x => (eq_val (Pv.mk 8 text 0 [] [] []) (Pv.mk 8 text bits cls name desc) x).trans (by rw [decide_eq_true (hiff.2 hz)])
    rw [if_pos hz]
    clear hz hiff
    go_enter Try.func8, Try.ntmps8
    go_wp2_with fail
    refine (form_any 8 _).mono ?_
    rintro e w1 ⟨rfl, rfl⟩
    simp only [show Pv.form 8 = 97 from by simp [Pv.form]]
    go_wp2
    go_ret
    exact ⟨rfl, k1.out⟩
  · have he : ∀ x, (Op.equalIn 10000 28 (.agg #[.int .i64 8, .string (bs text), .int .u64 0, .string ⟨#[]⟩, .string ⟨#[]⟩, .string ⟨#[]⟩]) (.agg #[.int .i64 8, .string (bs text), .int .u64 bits, .string (bs cls), .string (bs name), .string (bs desc)])).run Try.prog x = .ok false x := fun x => (eq_val (Pv.mk 8 text 0 [] [] []) (Pv.mk 8 text bits cls name desc) x).trans (by rw [decide_eq_false (fun h => hz (hiff.1 h))])
    rw [if_neg hz]
    clear hz hiff
    go_enter Try.func8, Try.ntmps8
    go_wp2_with fail
    refine (form_any 8 _).mono ?_
    rintro e w1 ⟨rfl, rfl⟩
    simp only [show Pv.form 8 = 97 from by simp [Pv.form]]
    go_wp2
    go_ret
    exact ⟨rfl, k1.out⟩
set_option maxHeartbeats 4000000 in
set_option maxRecDepth 100000 in
theorem rcheck_3 (text : List UInt8) (bits : Nat) (cls name desc : List UInt8) (w : World) :
    Calls Try.prog 8 #[.agg #[.int .i64 3, .string (bs text), .int .u64 bits, .string (bs cls), .string (bs name), .string (bs desc)]] w fun e w' => e = .returned (.int .i64 (if text = [] ∧ cls = [] ∧ name = [] ∧ desc = [] then (if 4294967296 ≤ bits then 5 else 0) else 9)) ∧ Below w.heap.size w w' := by
  have k1 := Lib.hid (Below.alloc' ((Below.refl w.heap.size w).alloc (Nat.le_refl _) (.cells #[.int .i64 3, .string (bs text), .int .u64 bits, .string (bs cls), .string (bs name), .string (bs desc)] 28)) (Nat.le_refl _) (.cells #[.int .i64 3, .string ⟨#[]⟩, .int .u64 bits, .string ⟨#[]⟩, .string ⟨#[]⟩, .string ⟨#[]⟩] 28))
  have hiff : Pv.mk 3 [] bits [] [] [] = Pv.mk 3 text bits cls name desc ↔ (text = [] ∧ cls = [] ∧ name = [] ∧ desc = []) := by
    simp only [Pv.mk.injEq, true_and, and_true]
    constructor <;> (intro h; simp_all)
  by_cases hz : text = [] ∧ cls = [] ∧ name = [] ∧ desc = []
  · have he : ∀ x, (Op.equalIn 10000 28 (.agg #[.int .i64 3, .string ⟨#[]⟩, .int .u64 bits, .string ⟨#[]⟩, .string ⟨#[]⟩, .string ⟨#[]⟩]) (.agg #[.int .i64 3, .string (bs text), .int .u64 bits, .string (bs cls), .string (bs name), .string (bs desc)])).run Try.prog x = .ok true x := fun x => (eq_val (Pv.mk 3 [] bits [] [] []) (Pv.mk 3 text bits cls name desc) x).trans (by rw [decide_eq_true (hiff.2 hz)])
    rw [if_pos hz]
    clear hz hiff
    by_cases hr : 4294967296 ≤ bits
    · have hs : decide ((4294967296 : Int) ≤ (bits : Int)) = true := decide_eq_true (by omega)
      rw [if_pos hr]
      clear hr
      go_enter Try.func8, Try.ntmps8
      go_wp2_with fail
      refine (form_any 3 _).mono ?_
      rintro e w1 ⟨rfl, rfl⟩
      simp only [show Pv.form 3 = 52 from by simp [Pv.form]]
      go_wp2
      go_ret
      exact ⟨rfl, k1.out⟩
    · have hs : decide ((4294967296 : Int) ≤ (bits : Int)) = false := decide_eq_false (by omega)
      rw [if_neg hr]
      clear hr
      go_enter Try.func8, Try.ntmps8
      go_wp2_with fail
      refine (form_any 3 _).mono ?_
      rintro e w1 ⟨rfl, rfl⟩
      simp only [show Pv.form 3 = 52 from by simp [Pv.form]]
      go_wp2
      go_ret
      exact ⟨rfl, k1.out⟩
  · have he : ∀ x, (Op.equalIn 10000 28 (.agg #[.int .i64 3, .string ⟨#[]⟩, .int .u64 bits, .string ⟨#[]⟩, .string ⟨#[]⟩, .string ⟨#[]⟩]) (.agg #[.int .i64 3, .string (bs text), .int .u64 bits, .string (bs cls), .string (bs name), .string (bs desc)])).run Try.prog x = .ok false x := fun x => (eq_val (Pv.mk 3 [] bits [] [] []) (Pv.mk 3 text bits cls name desc) x).trans (by rw [decide_eq_false (fun h => hz (hiff.1 h))])
    rw [if_neg hz]
    clear hz hiff
    go_enter Try.func8, Try.ntmps8
    go_wp2_with fail
    refine (form_any 3 _).mono ?_
    rintro e w1 ⟨rfl, rfl⟩
    simp only [show Pv.form 3 = 52 from by simp [Pv.form]]
    go_wp2
    go_ret
    exact ⟨rfl, k1.out⟩
set_option maxHeartbeats 4000000 in
set_option maxRecDepth 100000 in
theorem rcheck_4 (text : List UInt8) (bits : Nat) (cls name desc : List UInt8) (w : World) :
    Calls Try.prog 8 #[.agg #[.int .i64 4, .string (bs text), .int .u64 bits, .string (bs cls), .string (bs name), .string (bs desc)]] w fun e w' => e = .returned (.int .i64 (if text = [] ∧ cls = [] ∧ name = [] ∧ desc = [] then (if 4294967296 ≤ bits then 5 else 0) else 9)) ∧ Below w.heap.size w w' := by
  have k1 := Lib.hid (Below.alloc' ((Below.refl w.heap.size w).alloc (Nat.le_refl _) (.cells #[.int .i64 4, .string (bs text), .int .u64 bits, .string (bs cls), .string (bs name), .string (bs desc)] 28)) (Nat.le_refl _) (.cells #[.int .i64 4, .string ⟨#[]⟩, .int .u64 bits, .string ⟨#[]⟩, .string ⟨#[]⟩, .string ⟨#[]⟩] 28))
  have hiff : Pv.mk 4 [] bits [] [] [] = Pv.mk 4 text bits cls name desc ↔ (text = [] ∧ cls = [] ∧ name = [] ∧ desc = []) := by
    simp only [Pv.mk.injEq, true_and, and_true]
    constructor <;> (intro h; simp_all)
  by_cases hz : text = [] ∧ cls = [] ∧ name = [] ∧ desc = []
  · have he : ∀ x, (Op.equalIn 10000 28 (.agg #[.int .i64 4, .string ⟨#[]⟩, .int .u64 bits, .string ⟨#[]⟩, .string ⟨#[]⟩, .string ⟨#[]⟩]) (.agg #[.int .i64 4, .string (bs text), .int .u64 bits, .string (bs cls), .string (bs name), .string (bs desc)])).run Try.prog x = .ok true x := fun x => (eq_val (Pv.mk 4 [] bits [] [] []) (Pv.mk 4 text bits cls name desc) x).trans (by rw [decide_eq_true (hiff.2 hz)])
    rw [if_pos hz]
    clear hz hiff
    by_cases hr : 4294967296 ≤ bits
    · have hs : decide ((4294967296 : Int) ≤ (bits : Int)) = true := decide_eq_true (by omega)
      rw [if_pos hr]
      clear hr
      go_enter Try.func8, Try.ntmps8
      go_wp2_with fail
      refine (form_any 4 _).mono ?_
      rintro e w1 ⟨rfl, rfl⟩
      simp only [show Pv.form 4 = 52 from by simp [Pv.form]]
      go_wp2
      go_ret
      exact ⟨rfl, k1.out⟩
    · have hs : decide ((4294967296 : Int) ≤ (bits : Int)) = false := decide_eq_false (by omega)
      rw [if_neg hr]
      clear hr
      go_enter Try.func8, Try.ntmps8
      go_wp2_with fail
      refine (form_any 4 _).mono ?_
      rintro e w1 ⟨rfl, rfl⟩
      simp only [show Pv.form 4 = 52 from by simp [Pv.form]]
      go_wp2
      go_ret
      exact ⟨rfl, k1.out⟩
  · have he : ∀ x, (Op.equalIn 10000 28 (.agg #[.int .i64 4, .string ⟨#[]⟩, .int .u64 bits, .string ⟨#[]⟩, .string ⟨#[]⟩, .string ⟨#[]⟩]) (.agg #[.int .i64 4, .string (bs text), .int .u64 bits, .string (bs cls), .string (bs name), .string (bs desc)])).run Try.prog x = .ok false x := fun x => (eq_val (Pv.mk 4 [] bits [] [] []) (Pv.mk 4 text bits cls name desc) x).trans (by rw [decide_eq_false (fun h => hz (hiff.1 h))])
    rw [if_neg hz]
    clear hz hiff
    go_enter Try.func8, Try.ntmps8
    go_wp2_with fail
    refine (form_any 4 _).mono ?_
    rintro e w1 ⟨rfl, rfl⟩
    simp only [show Pv.form 4 = 52 from by simp [Pv.form]]
    go_wp2
    go_ret
    exact ⟨rfl, k1.out⟩
set_option maxHeartbeats 4000000 in
set_option maxRecDepth 100000 in
theorem rcheck_5 (text : List UInt8) (bits : Nat) (cls name desc : List UInt8) (w : World) :
    Calls Try.prog 8 #[.agg #[.int .i64 5, .string (bs text), .int .u64 bits, .string (bs cls), .string (bs name), .string (bs desc)]] w fun e w' => e = .returned (.int .i64 (if text = [] ∧ cls = [] ∧ name = [] ∧ desc = [] then 0 else 9)) ∧ Below w.heap.size w w' := by
  have k1 := Lib.hid (Below.alloc' ((Below.refl w.heap.size w).alloc (Nat.le_refl _) (.cells #[.int .i64 5, .string (bs text), .int .u64 bits, .string (bs cls), .string (bs name), .string (bs desc)] 28)) (Nat.le_refl _) (.cells #[.int .i64 5, .string ⟨#[]⟩, .int .u64 bits, .string ⟨#[]⟩, .string ⟨#[]⟩, .string ⟨#[]⟩] 28))
  have hiff : Pv.mk 5 [] bits [] [] [] = Pv.mk 5 text bits cls name desc ↔ (text = [] ∧ cls = [] ∧ name = [] ∧ desc = []) := by
    simp only [Pv.mk.injEq, true_and, and_true]
    constructor <;> (intro h; simp_all)
  by_cases hz : text = [] ∧ cls = [] ∧ name = [] ∧ desc = []
  · have he : ∀ x, (Op.equalIn 10000 28 (.agg #[.int .i64 5, .string ⟨#[]⟩, .int .u64 bits, .string ⟨#[]⟩, .string ⟨#[]⟩, .string ⟨#[]⟩]) (.agg #[.int .i64 5, .string (bs text), .int .u64 bits, .string (bs cls), .string (bs name), .string (bs desc)])).run Try.prog x = .ok true x := fun x => (eq_val (Pv.mk 5 [] bits [] [] []) (Pv.mk 5 text bits cls name desc) x).trans (by rw [decide_eq_true (hiff.2 hz)])
    rw [if_pos hz]
    clear hz hiff
    go_enter Try.func8, Try.ntmps8
    go_wp2_with fail
    refine (form_any 5 _).mono ?_
    rintro e w1 ⟨rfl, rfl⟩
    simp only [show Pv.form 5 = 56 from by simp [Pv.form]]
    go_wp2
    go_ret
    exact ⟨rfl, k1.out⟩
  · have he : ∀ x, (Op.equalIn 10000 28 (.agg #[.int .i64 5, .string ⟨#[]⟩, .int .u64 bits, .string ⟨#[]⟩, .string ⟨#[]⟩, .string ⟨#[]⟩]) (.agg #[.int .i64 5, .string (bs text), .int .u64 bits, .string (bs cls), .string (bs name), .string (bs desc)])).run Try.prog x = .ok false x := fun x => (eq_val (Pv.mk 5 [] bits [] [] []) (Pv.mk 5 text bits cls name desc) x).trans (by rw [decide_eq_false (fun h => hz (hiff.1 h))])
    rw [if_neg hz]
    clear hz hiff
    go_enter Try.func8, Try.ntmps8
    go_wp2_with fail
    refine (form_any 5 _).mono ?_
    rintro e w1 ⟨rfl, rfl⟩
    simp only [show Pv.form 5 = 56 from by simp [Pv.form]]
    go_wp2
    go_ret
    exact ⟨rfl, k1.out⟩
set_option maxHeartbeats 4000000 in
set_option maxRecDepth 100000 in
theorem rcheck_6 (text : List UInt8) (bits : Nat) (cls name desc : List UInt8) (w : World) :
    Calls Try.prog 8 #[.agg #[.int .i64 6, .string (bs text), .int .u64 bits, .string (bs cls), .string (bs name), .string (bs desc)]] w fun e w' => e = .returned (.int .i64 (if text = [] ∧ cls = [] ∧ name = [] ∧ desc = [] then 0 else 9)) ∧ Below w.heap.size w w' := by
  have k1 := Lib.hid (Below.alloc' ((Below.refl w.heap.size w).alloc (Nat.le_refl _) (.cells #[.int .i64 6, .string (bs text), .int .u64 bits, .string (bs cls), .string (bs name), .string (bs desc)] 28)) (Nat.le_refl _) (.cells #[.int .i64 6, .string ⟨#[]⟩, .int .u64 bits, .string ⟨#[]⟩, .string ⟨#[]⟩, .string ⟨#[]⟩] 28))
  have hiff : Pv.mk 6 [] bits [] [] [] = Pv.mk 6 text bits cls name desc ↔ (text = [] ∧ cls = [] ∧ name = [] ∧ desc = []) := by
    simp only [Pv.mk.injEq, true_and, and_true]
    constructor <;> (intro h; simp_all)
  by_cases hz : text = [] ∧ cls = [] ∧ name = [] ∧ desc = []
  · have he : ∀ x, (Op.equalIn 10000 28 (.agg #[.int .i64 6, .string ⟨#[]⟩, .int .u64 bits, .string ⟨#[]⟩, .string ⟨#[]⟩, .string ⟨#[]⟩]) (.agg #[.int .i64 6, .string (bs text), .int .u64 bits, .string (bs cls), .string (bs name), .string (bs desc)])).run Try.prog x = .ok true x := fun x => (eq_val (Pv.mk 6 [] bits [] [] []) (Pv.mk 6 text bits cls name desc) x).trans (by rw [decide_eq_true (hiff.2 hz)])
    rw [if_pos hz]
    clear hz hiff
    go_enter Try.func8, Try.ntmps8
    go_wp2_with fail
    refine (form_any 6 _).mono ?_
    rintro e w1 ⟨rfl, rfl⟩
    simp only [show Pv.form 6 = 56 from by simp [Pv.form]]
    go_wp2
    go_ret
    exact ⟨rfl, k1.out⟩
  · have he : ∀ x, (Op.equalIn 10000 28 (.agg #[.int .i64 6, .string ⟨#[]⟩, .int .u64 bits, .string ⟨#[]⟩, .string ⟨#[]⟩, .string ⟨#[]⟩]) (.agg #[.int .i64 6, .string (bs text), .int .u64 bits, .string (bs cls), .string (bs name), .string (bs desc)])).run Try.prog x = .ok false x := fun x => (eq_val (Pv.mk 6 [] bits [] [] []) (Pv.mk 6 text bits cls name desc) x).trans (by rw [decide_eq_false (fun h => hz (hiff.1 h))])
    rw [if_neg hz]
    clear hz hiff
    go_enter Try.func8, Try.ntmps8
    go_wp2_with fail
    refine (form_any 6 _).mono ?_
    rintro e w1 ⟨rfl, rfl⟩
    simp only [show Pv.form 6 = 56 from by simp [Pv.form]]
    go_wp2
    go_ret
    exact ⟨rfl, k1.out⟩
set_option maxHeartbeats 4000000 in
set_option maxRecDepth 100000 in
theorem rcheck_12 (text : List UInt8) (bits : Nat) (cls name desc : List UInt8) (w : World) :
    Calls Try.prog 8 #[.agg #[.int .i64 12, .string (bs text), .int .u64 bits, .string (bs cls), .string (bs name), .string (bs desc)]] w fun e w' => e = .returned (.int .i64 (if text = [] ∧ bits = 0 ∧ cls = [] then 0 else 9)) ∧ Below w.heap.size w w' := by
  have k1 := Lib.hid (Below.alloc' ((Below.refl w.heap.size w).alloc (Nat.le_refl _) (.cells #[.int .i64 12, .string (bs text), .int .u64 bits, .string (bs cls), .string (bs name), .string (bs desc)] 28)) (Nat.le_refl _) (.cells #[.int .i64 12, .string ⟨#[]⟩, .int .u64 0, .string ⟨#[]⟩, .string (bs name), .string (bs desc)] 28))
  have hiff : Pv.mk 12 [] 0 [] name desc = Pv.mk 12 text bits cls name desc ↔ (text = [] ∧ bits = 0 ∧ cls = []) := by
    simp only [Pv.mk.injEq, true_and, and_true]
    constructor <;> (intro h; simp_all)
  by_cases hz : text = [] ∧ bits = 0 ∧ cls = []
  · have he : ∀ x, (Op.equalIn 10000 28 (.agg #[.int .i64 12, .string ⟨#[]⟩, .int .u64 0, .string ⟨#[]⟩, .string (bs name), .string (bs desc)]) (.agg #[.int .i64 12, .string (bs text), .int .u64 bits, .string (bs cls), .string (bs name), .string (bs desc)])).run Try.prog x = .ok true x := fun x => (eq_val (Pv.mk 12 [] 0 [] name desc) (Pv.mk 12 text bits cls name desc) x).trans (by rw [decide_eq_true (hiff.2 hz)])
    rw [if_pos hz]
    clear hz hiff
    go_enter Try.func8, Try.ntmps8
    go_wp2_with fail
    refine (form_any 12 _).mono ?_
    rintro e w1 ⟨rfl, rfl⟩
    simp only [show Pv.form 12 = 98 from by simp [Pv.form]]
    go_wp2_with fail
    go_region
    go_wp2
    go_ret
    exact ⟨rfl, k1.out.drew⟩
  · have he : ∀ x, (Op.equalIn 10000 28 (.agg #[.int .i64 12, .string ⟨#[]⟩, .int .u64 0, .string ⟨#[]⟩, .string (bs name), .string (bs desc)]) (.agg #[.int .i64 12, .string (bs text), .int .u64 bits, .string (bs cls), .string (bs name), .string (bs desc)])).run Try.prog x = .ok false x := fun x => (eq_val (Pv.mk 12 [] 0 [] name desc) (Pv.mk 12 text bits cls name desc) x).trans (by rw [decide_eq_false (fun h => hz (hiff.1 h))])
    rw [if_neg hz]
    clear hz hiff
    go_enter Try.func8, Try.ntmps8
    go_wp2_with fail
    refine (form_any 12 _).mono ?_
    rintro e w1 ⟨rfl, rfl⟩
    simp only [show Pv.form 12 = 98 from by simp [Pv.form]]
    go_wp2_with fail
    go_region
    go_wp2
    go_ret
    exact ⟨rfl, k1.out.drew⟩
set_option maxHeartbeats 4000000 in
set_option maxRecDepth 100000 in
theorem rcheck_9 (text : List UInt8) (bits : Nat) (cls name desc : List UInt8) (w : World) :
    Calls Try.prog 8 #[.agg #[.int .i64 9, .string (bs text), .int .u64 bits, .string (bs cls), .string (bs name), .string (bs desc)]] w fun e w' => e = .returned (.int .i64 (if text = [] ∧ bits = 0 then 0 else 9)) ∧ Below w.heap.size w w' := by
  have k1 := Lib.hid (Below.alloc' ((Below.refl w.heap.size w).alloc (Nat.le_refl _) (.cells #[.int .i64 9, .string (bs text), .int .u64 bits, .string (bs cls), .string (bs name), .string (bs desc)] 28)) (Nat.le_refl _) (.cells #[.int .i64 9, .string ⟨#[]⟩, .int .u64 0, .string (bs cls), .string (bs name), .string (bs desc)] 28))
  have hiff : Pv.mk 9 [] 0 cls name desc = Pv.mk 9 text bits cls name desc ↔ (text = [] ∧ bits = 0) := by
    simp only [Pv.mk.injEq, true_and, and_true]
    constructor <;> (intro h; simp_all)
  by_cases hz : text = [] ∧ bits = 0
  · have he : ∀ x, (Op.equalIn 10000 28 (.agg #[.int .i64 9, .string ⟨#[]⟩, .int .u64 0, .string (bs cls), .string (bs name), .string (bs desc)]) (.agg #[.int .i64 9, .string (bs text), .int .u64 bits, .string (bs cls), .string (bs name), .string (bs desc)])).run Try.prog x = .ok true x := fun x => (eq_val (Pv.mk 9 [] 0 cls name desc) (Pv.mk 9 text bits cls name desc) x).trans (by rw [decide_eq_true (hiff.2 hz)])
    rw [if_pos hz]
    clear hz hiff
    go_enter Try.func8, Try.ntmps8
    go_wp2_with fail
    refine (form_any 9 _).mono ?_
    rintro e w1 ⟨rfl, rfl⟩
    simp only [show Pv.form 9 = 98 from by simp [Pv.form]]
    go_wp2_with fail
    go_region
    go_wp2
    go_ret
    exact ⟨rfl, k1.out.drew⟩
  · have he : ∀ x, (Op.equalIn 10000 28 (.agg #[.int .i64 9, .string ⟨#[]⟩, .int .u64 0, .string (bs cls), .string (bs name), .string (bs desc)]) (.agg #[.int .i64 9, .string (bs text), .int .u64 bits, .string (bs cls), .string (bs name), .string (bs desc)])).run Try.prog x = .ok false x := fun x => (eq_val (Pv.mk 9 [] 0 cls name desc) (Pv.mk 9 text bits cls name desc) x).trans (by rw [decide_eq_false (fun h => hz (hiff.1 h))])
    rw [if_neg hz]
    clear hz hiff
    go_enter Try.func8, Try.ntmps8
    go_wp2_with fail
    refine (form_any 9 _).mono ?_
    rintro e w1 ⟨rfl, rfl⟩
    simp only [show Pv.form 9 = 98 from by simp [Pv.form]]
    go_wp2_with fail
    go_region
    go_wp2
    go_ret
    exact ⟨rfl, k1.out.drew⟩
set_option maxHeartbeats 4000000 in
set_option maxRecDepth 100000 in
theorem rcheck_10 (text : List UInt8) (bits : Nat) (cls name desc : List UInt8) (w : World) :
    Calls Try.prog 8 #[.agg #[.int .i64 10, .string (bs text), .int .u64 bits, .string (bs cls), .string (bs name), .string (bs desc)]] w fun e w' => e = .returned (.int .i64 (if text = [] ∧ bits = 0 then 0 else 9)) ∧ Below w.heap.size w w' := by
  have k1 := Lib.hid (Below.alloc' ((Below.refl w.heap.size w).alloc (Nat.le_refl _) (.cells #[.int .i64 10, .string (bs text), .int .u64 bits, .string (bs cls), .string (bs name), .string (bs desc)] 28)) (Nat.le_refl _) (.cells #[.int .i64 10, .string ⟨#[]⟩, .int .u64 0, .string (bs cls), .string (bs name), .string (bs desc)] 28))
  have hiff : Pv.mk 10 [] 0 cls name desc = Pv.mk 10 text bits cls name desc ↔ (text = [] ∧ bits = 0) := by
    simp only [Pv.mk.injEq, true_and, and_true]
    constructor <;> (intro h; simp_all)
  by_cases hz : text = [] ∧ bits = 0
  · have he : ∀ x, (Op.equalIn 10000 28 (.agg #[.int .i64 10, .string ⟨#[]⟩, .int .u64 0, .string (bs cls), .string (bs name), .string (bs desc)]) (.agg #[.int .i64 10, .string (bs text), .int .u64 bits, .string (bs cls), .string (bs name), .string (bs desc)])).run Try.prog x = .ok true x := fun x => (eq_val (Pv.mk 10 [] 0 cls name desc) (Pv.mk 10 text bits cls name desc) x).trans (by rw [decide_eq_true (hiff.2 hz)])
    rw [if_pos hz]
    clear hz hiff
    go_enter Try.func8, Try.ntmps8
    go_wp2_with fail
    refine (form_any 10 _).mono ?_
    rintro e w1 ⟨rfl, rfl⟩
    simp only [show Pv.form 10 = 98 from by simp [Pv.form]]
    go_wp2_with fail
    go_region
    go_wp2
    go_ret
    exact ⟨rfl, k1.out.drew⟩
  · have he : ∀ x, (Op.equalIn 10000 28 (.agg #[.int .i64 10, .string ⟨#[]⟩, .int .u64 0, .string (bs cls), .string (bs name), .string (bs desc)]) (.agg #[.int .i64 10, .string (bs text), .int .u64 bits, .string (bs cls), .string (bs name), .string (bs desc)])).run Try.prog x = .ok false x := fun x => (eq_val (Pv.mk 10 [] 0 cls name desc) (Pv.mk 10 text bits cls name desc) x).trans (by rw [decide_eq_false (fun h => hz (hiff.1 h))])
    rw [if_neg hz]
    clear hz hiff
    go_enter Try.func8, Try.ntmps8
    go_wp2_with fail
    refine (form_any 10 _).mono ?_
    rintro e w1 ⟨rfl, rfl⟩
    simp only [show Pv.form 10 = 98 from by simp [Pv.form]]
    go_wp2_with fail
    go_region
    go_wp2
    go_ret
    exact ⟨rfl, k1.out.drew⟩
set_option maxHeartbeats 4000000 in
set_option maxRecDepth 100000 in
theorem rcheck_11 (text : List UInt8) (bits : Nat) (cls name desc : List UInt8) (w : World) :
    Calls Try.prog 8 #[.agg #[.int .i64 11, .string (bs text), .int .u64 bits, .string (bs cls), .string (bs name), .string (bs desc)]] w fun e w' => e = .returned (.int .i64 (if text = [] ∧ bits = 0 then 0 else 9)) ∧ Below w.heap.size w w' := by
  have k1 := Lib.hid (Below.alloc' ((Below.refl w.heap.size w).alloc (Nat.le_refl _) (.cells #[.int .i64 11, .string (bs text), .int .u64 bits, .string (bs cls), .string (bs name), .string (bs desc)] 28)) (Nat.le_refl _) (.cells #[.int .i64 11, .string ⟨#[]⟩, .int .u64 0, .string (bs cls), .string (bs name), .string (bs desc)] 28))
  have hiff : Pv.mk 11 [] 0 cls name desc = Pv.mk 11 text bits cls name desc ↔ (text = [] ∧ bits = 0) := by
    simp only [Pv.mk.injEq, true_and, and_true]
    constructor <;> (intro h; simp_all)
  by_cases hz : text = [] ∧ bits = 0
  · have he : ∀ x, (Op.equalIn 10000 28 (.agg #[.int .i64 11, .string ⟨#[]⟩, .int .u64 0, .string (bs cls), .string (bs name), .string (bs desc)]) (.agg #[.int .i64 11, .string (bs text), .int .u64 bits, .string (bs cls), .string (bs name), .string (bs desc)])).run Try.prog x = .ok true x := fun x => (eq_val (Pv.mk 11 [] 0 cls name desc) (Pv.mk 11 text bits cls name desc) x).trans (by rw [decide_eq_true (hiff.2 hz)])
    rw [if_pos hz]
    clear hz hiff
    go_enter Try.func8, Try.ntmps8
    go_wp2_with fail
    refine (form_any 11 _).mono ?_
    rintro e w1 ⟨rfl, rfl⟩
    simp only [show Pv.form 11 = 98 from by simp [Pv.form]]
    go_wp2_with fail
    go_region
    go_wp2
    go_ret
    exact ⟨rfl, k1.out.drew⟩
  · have he : ∀ x, (Op.equalIn 10000 28 (.agg #[.int .i64 11, .string ⟨#[]⟩, .int .u64 0, .string (bs cls), .string (bs name), .string (bs desc)]) (.agg #[.int .i64 11, .string (bs text), .int .u64 bits, .string (bs cls), .string (bs name), .string (bs desc)])).run Try.prog x = .ok false x := fun x => (eq_val (Pv.mk 11 [] 0 cls name desc) (Pv.mk 11 text bits cls name desc) x).trans (by rw [decide_eq_false (fun h => hz (hiff.1 h))])
    rw [if_neg hz]
    clear hz hiff
    go_enter Try.func8, Try.ntmps8
    go_wp2_with fail
    refine (form_any 11 _).mono ?_
    rintro e w1 ⟨rfl, rfl⟩
    simp only [show Pv.form 11 = 98 from by simp [Pv.form]]
    go_wp2_with fail
    go_region
    go_wp2
    go_ret
    exact ⟨rfl, k1.out.drew⟩
theorem rcheck_no (tag : Int) (text : List UInt8) (bits : Nat) (cls name desc : List UInt8) (w : World) (n1 : ¬ (tag = 1 ∨ tag = 7 ∨ tag = 8)) (n2 : ¬ (tag = 3 ∨ tag = 4 ∨ tag = 5 ∨ tag = 6)) (n3 : ¬ tag = 12) (n4 : ¬ (tag = 9 ∨ tag = 10 ∨ tag = 11)) :
    Calls Try.prog 8 #[.agg #[.int .i64 tag, .string (bs text), .int .u64 bits, .string (bs cls), .string (bs name), .string (bs desc)]] w fun e w' => e = .returned (.int .i64 9) ∧ Below w.heap.size w w' := by
  have k1 := Lib.hid ((Below.refl w.heap.size w).alloc (Nat.le_refl _) (.cells #[.int .i64 tag, .string (bs text), .int .u64 bits, .string (bs cls), .string (bs name), .string (bs desc)] 28))
  have hf : Pv.form tag = 0 := by unfold Pv.form; rw [if_neg (by omega), if_neg (by omega), if_neg (by omega), if_neg (by omega), if_neg (by omega)]
  clear n1 n2 n3 n4
  go_enter Try.func8, Try.ntmps8
  go_wp2_with fail
  refine (form_any tag _).mono ?_
  rintro e w1 ⟨rfl, rfl⟩
  simp only [hf]
  go_wp2
  go_ret
  exact ⟨rfl, k1.out⟩
theorem rcheck_any (v : Pv) (w : World) : Calls Try.prog 8 #[vv v] w fun e w' => e = .returned (.int .i64 (v.chk 0 9 5)) ∧ Below w.heap.size w w' := by
  obtain ⟨tag, text, bits, cls, name, desc⟩ := v
  unfold Pv.chk
  dsimp only
  split
  · rename_i h
    rcases h with rfl | rfl | rfl
    · exact rcheck_1 text bits cls name desc w
    · exact rcheck_7 text bits cls name desc w
    · exact rcheck_8 text bits cls name desc w
  · rename_i n1
    split
    · rename_i h
      rcases h with rfl | rfl | rfl | rfl
      · have := rcheck_3 text bits cls name desc w
        simp only [Int.reduceEq, or_false, false_or, true_or, or_true, true_and, false_and, if_false, or_self]
        exact this
      · have := rcheck_4 text bits cls name desc w
        simp only [Int.reduceEq, or_false, false_or, true_or, or_true, true_and, false_and, if_false, or_self]
        exact this
      · have := rcheck_5 text bits cls name desc w
        simp only [Int.reduceEq, or_false, false_or, true_or, or_true, true_and, false_and, if_false, or_self]
        exact this
      · have := rcheck_6 text bits cls name desc w
        simp only [Int.reduceEq, or_false, false_or, true_or, or_true, true_and, false_and, if_false, or_self]
        exact this
    · rename_i n2
      split
      · rename_i h; subst h; exact rcheck_12 text bits cls name desc w
      · rename_i n3
        split
        · rename_i h
          rcases h with rfl | rfl | rfl
          · exact rcheck_9 text bits cls name desc w
          · exact rcheck_10 text bits cls name desc w
          · exact rcheck_11 text bits cls name desc w
        · rename_i n4; exact rcheck_no tag text bits cls name desc w n1 n2 n3 n4
end Go.Proofs.Ytdmiljaiglaacaa

/- The walk of layer 19: the pool's order, by the document. -/
namespace Go.Proofs.Ytdmiljaiglaacaa
open Go.RowKit

/-- The first thing that is wrong. -/
def Pv.errOf : List Pv → Int
  | [] => 0
  | v :: l => if v.chk 0 9 5 = 0 then Pv.errOf l else v.chk 0 9 5
theorem Pv.errOf_zero : ∀ {l : List Pv}, Pv.errOf l = 0 → ∀ v ∈ l, v.chk 0 9 5 = 0
  | [], _, v, hv => by simp at hv
  | x :: l, h, v, hv => by
    unfold Pv.errOf at h
    split at h
    · rename_i h0
      rcases List.mem_cons.1 hv with rfl | hv
      · exact h0
      · exact Pv.errOf_zero h v hv
    · rename_i h0; exact absurd h h0
theorem Pv.errOf_drop {l : List Pv} {i : Nat} {v : Pv} (h : l[i]? = some v) : Pv.errOf (l.drop i) = if v.chk 0 9 5 = 0 then Pv.errOf (l.drop (i + 1)) else v.chk 0 9 5 := by
  obtain ⟨h3, rfl⟩ := List.getElem?_eq_some_iff.1 h
  rw [List.drop_eq_getElem_cons h3]
  rfl
theorem putO_fold_len : ∀ (l acc : List Pv), (l.foldl (putO Pv.lt) acc).length ≤ acc.length + l.length
  | [], acc => by simp
  | x :: l, acc => by
    have h1 := putO_fold_len l (putO Pv.lt acc x)
    have h2 := putO_len acc x
    rw [List.foldl_cons, List.length_cons]; omega
theorem putO_fold_snoc {l : List Pv} {i : Nat} {v : Pv} (h : l[i]? = some v) : (l.take (i + 1)).foldl (putO Pv.lt) [] = putO Pv.lt ((l.take i).foldl (putO Pv.lt) []) v := by
  obtain ⟨h1, rfl⟩ := List.getElem?_eq_some_iff.1 h
  rw [List.take_succ_eq_append_getElem h1, List.foldl_append]
  rfl
theorem slots_len_le (l : List Pv) : (Pv.slots l).length ≤ 1 + 2 * l.length := by
  rw [Pv.slots_len]
  have : (l.map Pv.room).sum ≤ 2 * l.length := by
    induction l with
    | nil => simp
    | cons x l ih =>
      have hx : x.room ≤ 2 := by unfold Pv.room; split <;> omega
      simp only [List.map_cons, List.sum_cons, List.length_cons]; omega
  omega
theorem slot_snoc {l : List Pv} {i : Nat} {v : Pv} (h : l[i]? = some v) : (l.take (i + 1)).flatMap Pv.slot = (l.take i).flatMap Pv.slot ++ v.slot := by
  obtain ⟨h1, rfl⟩ := List.getElem?_eq_some_iff.1 h
  rw [List.take_succ_eq_append_getElem h1, List.flatMap_append]
  simp
/-- The row t lies apart from these. -/
def ApartOf (t : Value) (us : List Value) : Prop := ∀ k, t.ownBlock = some k → ∀ u ∈ us, u.ownBlock ≠ some k
theorem ApartOf.hop {t t' : Value} {us : List Value} {x x' : World} (h : ApartOf t us) (hp : Hop x x' t.ownBlock t'.ownBlock) (hl : ∀ u ∈ us, ∀ k, u.ownBlock = some k → k < x.heap.size) : ApartOf t' us := by
  intro k hk u hu e
  rcases hp.2 with h2 | ⟨g, hg, h2⟩
  · exact h k (h2 ▸ hk) u hu e
  · rw [h2] at hk
    cases hk
    have := hl u hu k e
    omega
theorem VRow.hop {x x' : World} {base : Nat} {t t' u : Value} {us : List Value} {xs : List Pv} (h : VRow x base u xs) (hp : Hop x x' t.ownBlock t'.ownBlock) (ha : ApartOf t us) (hu : u ∈ us) : VRow x' base u xs :=
  h.kept hp.1 fun k hk e => ha k e u hu hk
theorem VRow.lt {x : World} {base : Nat} {u : Value} {xs : List Pv} (h : VRow x base u xs) {k : Nat} (hk : u.ownBlock = some k) : k < x.heap.size := (World.ownsRow.lt h k hk).2
theorem VRow.vals {x : World} {base : Nat} {A : Option Addr} {n c : Nat} {xs : List Pv} (h : VRow x base (.slice A n c) xs) : Vals x A c xs := by
  obtain ⟨A', c', e, hv, _⟩ := h.reads
  cases e
  exact hv
theorem lacks_snoc {F R l : List Pv} {i : Nat} {x : Pv} (h : l[i]? = some x) : lacks F R (l.take (i + 1)) = lacks F R (l.take i) ++ (if x ∉ F ∧ x ∉ R then [x] else []) := by
  obtain ⟨h1, rfl⟩ := List.getElem?_eq_some_iff.1 h
  rw [List.take_succ_eq_append_getElem h1]
  unfold lacks
  rw [List.filter_append, List.filter_cons, List.filter_nil]
  simp only [Bool.and_eq_true, decide_eq_true_eq]
/-- Between two rounds. -/
def OrdSt (low all F : List Pv) (w : World) (u9 u10 u13 : Value) (g : Nat) (x : World) : Prop :=
  ∃ R T, wts T ≤ g ∧ wts T + R.length ≤ 14000 ∧ Todo low all F R T ∧ VRow x w.heap.size u9 F ∧ VRow x w.heap.size u10 R ∧ VOff x w.heap.size u13 T ∧ ApartOf u13 [u9, u10] ∧ Below w.heap.size w x
/-- What the call comes to. -/
def OrderOk (low all : List Pv) (w : World) (e : Ending) (w' : World) : Prop :=
  ∃ u l, e = .returned (.tuple #[u, .int .i64 (Pv.errOf (low ++ all))]) ∧ VRow w' w.heap.size u l ∧ (Pv.errOf (low ++ all) = 0 ∧ l = Pv.slots (Pv.ord low all) ∨ Pv.errOf (low ++ all) ≠ 0 ∧ l = []) ∧ Below w.heap.size w w'
end Go.Proofs.Ytdmiljaiglaacaa

/- Layer 28, plain: what the document's order comes to, each value once; a table's rows and numbers. No program. -/
namespace Go.Proofs.Ytdmiljaiglaacaa

theorem ord_nil (l : List Pv) : Pv.ord [] l = sd Pv.lt (clAll l) := by
  unfold Pv.ord Pv.rest
  have e : (clAll ([] ++ l)).filter (fun x => decide (x ∉ ([] : List Pv))) = clAll l := by
    rw [List.nil_append]
    exact List.filter_eq_self.2 fun x _ => by simp
  rw [e]
  rfl
/-- The document's closure: of the order's values, each once. -/
def Pv.dd : Pv → Bool → List Pv → List Pv
  | _, _, [] => []
  | p, first, v :: vs => (if first = true ∨ v ≠ p then [v] else []) ++ Pv.dd v false vs
theorem dd_slots : ∀ (l : List Pv), l.Nodup → ∀ (p : Pv) (first : Bool), first = true ∨ p ∉ l → Pv.dd p first (l.flatMap Pv.slot) = l
  | [], _, _, _, _ => rfl
  | v :: l, hn, p, first, h => by
    obtain ⟨h1, h2⟩ := List.nodup_cons.1 hn
    have hc : first = true ∨ v ≠ p := h.imp_right fun h e => h (e ▸ List.mem_cons_self ..)
    have ih := dd_slots l h2 v false (.inr h1)
    rw [List.flatMap_cons]
    have hs : v.slot = [v] ∨ v.slot = [v, v] := by
      unfold Pv.slot
      cases v.wide
      · exact .inl rfl
      · exact .inr rfl
    rcases hs with hs | hs <;> rw [hs]
    · simp only [List.cons_append, List.nil_append, Pv.dd]
      rw [if_pos hc, ih]
      rfl
    · simp only [List.cons_append, List.nil_append, Pv.dd]
      rw [if_pos hc, if_neg (by simp), ih]
      rfl
/-- The values of a tag. -/
def Pv.row (O : List Pv) (t : Int) : List Pv := O.filter fun v => decide (v.tag = t)
/-- A value's place among those of its tag. -/
def Pv.rk : List Pv → Pv → Nat
  | [], _ => 0
  | x :: xs, v => if x = v then 0 else (if x.tag = v.tag then 1 else 0) + Pv.rk xs v
theorem row_nil (t : Int) : Pv.row [] t = [] := rfl
theorem row_cons (x : Pv) (xs : List Pv) (t : Int) : Pv.row (x :: xs) t = (if x.tag = t then [x] else []) ++ Pv.row xs t := by
  unfold Pv.row
  rw [List.filter_cons]
  by_cases h : x.tag = t
  · simp [h]
  · simp [h]
theorem row_app (a b : List Pv) (t : Int) : Pv.row (a ++ b) t = Pv.row a t ++ Pv.row b t := List.filter_append ..
theorem row_snoc {O : List Pv} {i : Nat} {v : Pv} (h : O[i]? = some v) (t : Int) : Pv.row (O.take (i + 1)) t = Pv.row (O.take i) t ++ (if v.tag = t then [v] else []) := by
  obtain ⟨h1, rfl⟩ := List.getElem?_eq_some_iff.1 h
  rw [List.take_succ_eq_append_getElem h1, row_app, row_cons, row_nil, List.append_nil]
theorem row_len (O : List Pv) (t : Int) : (Pv.row O t).length ≤ O.length := List.length_filter_le ..
theorem mem_row {O : List Pv} {t : Int} {v : Pv} : v ∈ Pv.row O t ↔ v ∈ O ∧ v.tag = t := by
  unfold Pv.row
  rw [List.mem_filter]
  simp
/-- At its turn a value's number is how many of its tag there were. -/
theorem rk_take : ∀ {O : List Pv} {i : Nat} {v : Pv}, O.Nodup → O[i]? = some v → Pv.rk O v = (Pv.row (O.take i) v.tag).length
  | [], i, v, _, h => by simp at h
  | x :: xs, 0, v, _, h => by
    simp at h
    subst h
    simp [Pv.rk, Pv.row]
  | x :: xs, i + 1, v, hn, h => by
    obtain ⟨h1, h2⟩ := List.nodup_cons.1 hn
    rw [List.getElem?_cons_succ] at h
    have hv : v ∈ xs := List.mem_of_getElem? h
    have hne : x ≠ v := fun e => h1 (e ▸ hv)
    rw [Pv.rk, if_neg hne, List.take_succ_cons, row_cons, rk_take h2 h, List.length_append]
    by_cases e : x.tag = v.tag
    · rw [if_pos e, if_pos e]; simp
    · rw [if_neg e, if_neg e]; simp
theorem row_get : ∀ {O : List Pv} {v : Pv}, v ∈ O → (Pv.row O v.tag)[Pv.rk O v]? = some v
  | [], v, h => by simp at h
  | x :: xs, v, h => by
    rw [row_cons, Pv.rk]
    by_cases e : x = v
    · subst e; simp
    · have hv : v ∈ xs := (List.mem_cons.1 h).resolve_left fun h => e h.symm
      have ih := row_get hv
      rw [if_neg e]
      by_cases et : x.tag = v.tag
      · rw [if_pos et, if_pos et, Nat.add_comm]
        simpa using ih
      · rw [if_neg et, if_neg et]
        simpa using ih
theorem rk_lt {O : List Pv} {v : Pv} (h : v ∈ O) : Pv.rk O v < (Pv.row O v.tag).length := (List.getElem?_eq_some_iff.1 (row_get h)).1
/-- What the numbers say while values are put in. -/
def Pv.nums (O : List Pv) (i : Nat) (v : Pv) : Int := if v ∈ O.take i then ((Pv.rk O v : Nat) : Int) else 0
theorem nums_zero (O : List Pv) : Pv.nums O 0 = fun _ => 0 := by funext v; simp [Pv.nums]
theorem nums_next {O : List Pv} {i : Nat} {v : Pv} (hn : O.Nodup) (h : O[i]? = some v) : Pv.nums O (i + 1) = fun u => if u = v then ((Pv.row (O.take i) v.tag).length : Int) else Pv.nums O i u := by
  funext u
  have e := rk_take hn h
  obtain ⟨h1, rfl⟩ := List.getElem?_eq_some_iff.1 h
  have hm : u ∈ O.take (i + 1) ↔ u ∈ O.take i ∨ u = O[i] := by
    rw [List.take_succ_eq_append_getElem h1, List.mem_append, List.mem_singleton]
  unfold Pv.nums
  by_cases hu : u = O[i]
  · rw [if_pos (hm.2 (.inr hu)), if_pos hu, hu, e]
  · rw [if_neg hu]
    by_cases h2 : u ∈ O.take i
    · rw [if_pos (hm.2 (.inl h2)), if_pos h2]
    · rw [if_neg (fun h => (hm.1 h).elim h2 hu), if_neg h2]
theorem nums_all (O : List Pv) (v : Pv) : Pv.nums O O.length v = if v ∈ O then ((Pv.rk O v : Nat) : Int) else 0 := by
  unfold Pv.nums
  rw [List.take_length]
/-- Tags of what may be. -/
theorem chk_tag {v : Pv} (h : v.chk 0 9 5 = 0) : 1 ≤ v.tag ∧ v.tag ≤ 12 := by
  unfold Pv.chk at h
  by_cases h1 : v.tag = 1 ∨ v.tag = 7 ∨ v.tag = 8 ∨ v.tag = 3 ∨ v.tag = 4 ∨ v.tag = 5 ∨ v.tag = 6 ∨ v.tag = 12 ∨ v.tag = 9 ∨ v.tag = 10 ∨ v.tag = 11
  · omega
  · exfalso
    repeat' split at h
    all_goals first | omega | exact absurd h (by decide)
theorem row_none {O : List Pv} (h : ∀ v ∈ O, v.chk 0 9 5 = 0) {t : Int} (ht : t < 1 ∨ 12 < t) : Pv.row O t = [] := by
  refine List.eq_nil_iff_forall_not_mem.2 fun v hv => ?_
  obtain ⟨h1, h2⟩ := mem_row.1 hv
  have := chk_tag (h v h1)
  omega
end Go.Proofs.Ytdmiljaiglaacaa

/- A table: a box with thirteen rows of values and a map. -/
namespace Go.Proofs.Ytdmiljaiglaacaa
open Go.RowKit Go.Maps

def TBox (w : World) (b : Nat) (us : Nat → Value) (m : Nat) : Prop := ∃ cs : Array Value, w.heap[b]? = some (.cells cs 89 (0, 0)) ∧ cs.size = 14 ∧ (∀ t, t < 13 → cs[t]? = some (us t)) ∧ cs[13]? = some (.map (some m))
section
variable {w w1 : World} {b m : Nat} {us : Nat → Value}
theorem TBox.lt (h : TBox w b us m) : b < w.heap.size := by
  obtain ⟨cs, h1, _⟩ := h
  exact (Array.getElem?_eq_some_iff.1 h1).1
theorem TBox.keep {B : Nat} (h : TBox w b us m) (k : Below B w w1) (hb : b < B) : TBox w1 b us m := by
  obtain ⟨cs, h1, h2⟩ := h
  exact ⟨cs, (k.block b hb).trans h1, h2⟩
theorem TBox.kept {o : Option Nat} (h : TBox w b us m) (k : w.grownBy w1 o) (hne : some b ≠ o) : TBox w1 b us m := by
  have hl := h.lt
  obtain ⟨cs, h1, h2⟩ := h
  exact ⟨cs, (k.block b hl hne).trans h1, h2⟩
theorem TBox.cell (h : TBox w b us m) {t : Nat} (ht : t < 13) : w.cell? ⟨b, t, none⟩ = some (us t) := by
  obtain ⟨cs, h1, _, h3, _⟩ := h
  exact ((blk_facts h1).1 t).trans (h3 t ht)
theorem TBox.map (h : TBox w b us m) : w.cell? ⟨b, 13, none⟩ = some (.map (some m)) := by
  obtain ⟨cs, h1, _, _, h4⟩ := h
  exact ((blk_facts h1).1 13).trans h4
theorem TBox.frozen (h : TBox w b us m) (t : Nat) : w.frozen? ⟨b, t, none⟩ = false := by
  obtain ⟨cs, h1, _⟩ := h
  exact (blk_facts h1).2 t
theorem TBox.set (h : TBox w b us m) {t : Nat} (ht : t < 13) (v : Value) : TBox (w.setCell ⟨b, t, none⟩ v) b (fun k => if k = t then v else us k) m := by
  obtain ⟨cs, h1, h2, h3, h4⟩ := h
  refine ⟨cs.setIfInBounds t v, ?_, by simpa using h2, fun k hk => ?_, ?_⟩
  · simp [World.setCell, Array.getElem?_modify, h1]
  · rw [Array.getElem?_setIfInBounds]
    by_cases e : k = t
    · subst e
      rw [if_pos rfl, if_pos (by omega)]
      dsimp only
      rw [if_pos rfl]
    · rw [if_neg (fun h => e h.symm)]
      dsimp only
      rw [if_neg e]
      exact h3 k hk
  · rw [Array.getElem?_setIfInBounds, if_neg (by omega)]
    exact h4
theorem TBox.turned (h : TBox w b us m) (t : Nat) (v : Value) : w.grownBy (w.setCell ⟨b, t, none⟩ v) (some b) := by
  obtain ⟨cs, h1, _⟩ := h
  rw [setCell_eq_setRow w b t cs 89 (0, 0) v h1]
  exact ⟨rfl, rfl, rfl, by simp, fun k _ hne => setRow_other w b k _ (fun hh => hne (by rw [hh]))⟩
/-- A row of values is not the box. -/
theorem TBox.apart {x : World} {base : Nat} {u : Value} {xs : List Pv} (h : TBox w b us m) (hr : VRow x base u xs) (hx : x.heap[b]? = w.heap[b]?) : some b ≠ u.ownBlock := by
  obtain ⟨cs, h1, _⟩ := h
  exact own_ne hr (hx.trans h1) (by decide)
end
/-- The table: its rows and its numbers. -/
structure TabS (x : World) (base b m n : Nat) (us : Nat → Value) (R : Nat → List Pv) (f : Pv → Int) (S : Pv → Bool) : Prop where
  box : TBox x b us m
  rows : ∀ t, t < 13 → VRow x base (us t) (R t)
  apart : ∀ s t, s < 13 → t < 13 → s ≠ t → ∀ k, (us s).ownBlock = some k → (us t).ownBlock ≠ some k
  num : VTab x m n f S
  hb : base ≤ b
  hm : base ≤ m
section
variable {x y : World} {base b m n : Nat} {us : Nat → Value} {R : Nat → List Pv} {f : Pv → Int} {S : Pv → Bool}
theorem TabS.grow (h : TabS x base b m n us R f S) (k : Below x.heap.size x y) : TabS y base b m n us R f S :=
  ⟨h.box.keep k h.box.lt, fun t ht => (h.rows t ht).grow k, h.apart, h.num.grow k, h.hb, h.hm⟩
theorem TabS.mne (h : TabS x base b m n us R f S) : m ≠ b := by
  obtain ⟨cs, h1, _⟩ := h.box
  exact h.num.ne h1
/-- The map turns: one value more. -/
theorem TabS.nums (h : TabS x base b m n us R f S) {f' : Pv → Int} {S' : Pv → Bool} {n' : Nat} (hn : VTab y m n' f' S') (hg : x.grownBy y (some m)) : TabS y base b m n' us R f' S' := by
  refine ⟨h.box.kept hg (fun e => h.mne (Option.some.inj e).symm), fun t ht => (h.rows t ht).kept hg (fun k hk e => ?_), h.apart, hn, h.hb, h.hm⟩
  cases e
  obtain ⟨D, ⟨es, clock, hb, _⟩, _⟩ := h.num
  rcases (h.rows t ht).2 with ⟨e1, _⟩ | ⟨g, cap, cur, e1, _, hg2, _⟩
  · rw [e1] at hk; cases hk
  · rw [e1] at hk
    cases hk
    rw [hb] at hg2
    cases hg2
/-- A row turns, and is stored anew. -/
theorem TabS.put (h : TabS x base b m n us R f S) {t : Nat} (ht : t < 13) {v : Value} {xs : List Pv} (hr : VRow y base v (R t ++ xs)) (hp : Hop x y (us t).ownBlock v.ownBlock) :
    TabS (y.setCell ⟨b, t, none⟩ v) base b m n (fun k => if k = t then v else us k) (fun k => if k = t then R t ++ xs else R k) f S := by
  have hbr : some b ≠ (us t).ownBlock := h.box.apart (h.rows t ht) rfl
  have hby : TBox y b us m := h.box.kept hp.1 hbr
  have hbv : some b ≠ v.ownBlock := hby.apart hr rfl
  have hlt : ∀ s, s < 13 → ∀ k, (us s).ownBlock = some k → k < x.heap.size := fun s hs k hk => (World.ownsRow.lt (h.rows s hs) k hk).2
  have hmr : some m ≠ (us t).ownBlock := fun e => by
    obtain ⟨D, ⟨es, clock, hb, _⟩, _⟩ := h.num
    rcases (h.rows t ht).2 with ⟨e1, _⟩ | ⟨g, cap, cur, e1, _, hg2, _⟩
    · rw [e1] at e; cases e
    · rw [e1] at e
      cases e
      rw [hb] at hg2
      cases hg2
  refine ⟨hby.set ht v, fun s hs => ?_, fun s s' hs hs' hne k hk e => ?_, ?_, h.hb, h.hm⟩
  · by_cases e : s = t
    · subst e
      rw [if_pos rfl, if_pos rfl]
      exact hr.kept (hby.turned s v) (fun k hk e => by cases e; exact hbv hk.symm)
    · rw [if_neg e, if_neg e]
      have h1 : VRow y base (us s) (R s) := (h.rows s hs).kept hp.1 (fun k hk e2 => h.apart s t hs ht e k hk e2)
      exact h1.kept (hby.turned t v) (fun k hk e2 => by
        cases e2
        exact h.box.apart (h.rows s hs) rfl hk.symm)
  · have new : ∀ s, s < 13 → s ≠ t → ∀ k, v.ownBlock = some k → (us s).ownBlock ≠ some k := fun s hs hst k hk e => by
      rcases hp.2 with h2 | ⟨g, hg, h2⟩
      · exact h.apart s t hs ht hst k e (h2 ▸ hk)
      · rw [h2] at hk
        cases hk
        have := hlt s hs _ e
        omega
    by_cases e1 : s = t
    · by_cases e2 : s' = t
      · exact hne (e1.trans e2.symm)
      · rw [if_pos e1] at hk
        rw [if_neg e2] at e
        exact new s' hs' e2 k hk e
    · by_cases e2 : s' = t
      · rw [if_neg e1] at hk
        rw [if_pos e2] at e
        exact new s hs e1 k e hk
      · rw [if_neg e1] at hk
        rw [if_neg e2] at e
        exact h.apart s s' hs hs' hne k hk e
  · exact (h.num.kept hp.1 hmr).kept (hby.turned t v) (fun e => h.mne (Option.some.inj e))
end
end Go.Proofs.Ytdmiljaiglaacaa

/- Regions that draw their order: a head whose operations are quiet in the class 'all that stood is as it was', then a tail in one forced order. No program. -/
namespace Go.Proofs.Ytdmiljaiglaacaa
open Go.RowKit

section
variable {P : Program} {ops : Array Oper} {md : Region.Mode} {C : World → Prop}
/-- Whatever order is picked for the next 'f' operations: each is one of the first n, and quiet; behind them 'L'. -/
def headAny (P : Program) (md : Region.Mode) (ops : Array Oper) (C : World → Prop) (n : Nat) (L : Array Bool → Act → Prop) : Nat → Array Bool → Act → Prop
  | 0, listed, a => L listed a
  | f + 1, listed, a => Region.ready md ops listed ≠ [] ∧ ∀ i ∈ Region.ready md ops listed, i < n ∧ qOp P ops C i (headAny P md ops C n L f (listed.setIfInBounds i true)) a

theorem wpAny_of_headAny {n g : Nat} {L : Array Bool → Act → Prop} {Q : Exit → Act → World → Prop} (hL : ∀ listed a w, C w → L listed a → wpAny P md ops Q g listed a w) :
    ∀ (f : Nat) (listed : Array Bool) (a : Act) (w : World), C w → headAny P md ops C n L f listed a → wpAny P md ops Q (f + g) listed a w
  | 0, listed, a, w, hw, h => by rw [Nat.zero_add]; exact hL _ _ _ hw h
  | f + 1, listed, a, w, hw, h => by
    have e : f + 1 + g = (f + g) + 1 := by omega
    rw [e]
    exact ⟨fun h0 => absurd h0 h.1, fun i hi => wpOp_of_qOp hw (fun a' w' hw' h' => wpAny_of_headAny hL f _ a' w' hw' h') (h.2 i hi).2⟩

/-- An operation of the head that may come up may be taken first. -/
theorem headAny_first {n i : Nat} {oi : Oper} {v : Value} {L : Array Bool → Act → Prop} (hi : ops[i]? = some oi) (hsel : ∀ (j : Nat) (o : Oper) cs b, ops[j]? = some o → o.op ≠ .select cs b)
    (hs : Region.sinkB md ops n = true) (hc : Region.chainB md ops n = true) (hn : n < ops.size) (hin : i < n)
    (hdone : ∀ listed a, L listed a → ∀ j ∈ Region.ready md ops listed, n ≤ j) (f : Nat) :
    ∀ (listed : Array Bool) (a : Act), HeadInv md ops n listed →
      (∀ j oj, ops[j]? = some oj → j ≠ i → listed.getD j true = false → (∀ e ∈ oj.after, Region.binds md e = true → e.on ≠ i) → oi.apart ops oj = true) →
      i ∈ Region.ready md ops listed → YieldsIn P ops C oi v a →
      headAny P md ops C n L f (listed.setIfInBounds i true) (a.put oi.dst v) → headAny P md ops C n L (f + 1) listed a := by
  induction f with
  | zero =>
    intro listed a inv _ hr hy H
    refine ⟨fun h => (by rw [h] at hr; cases hr), fun j hj => ?_⟩
    have hjn : j < n := Nat.lt_of_not_le fun h => tail_waits hs hc hn inv _ i rfl hin (mem_ready.1 hr).1 j h hj
    refine ⟨hjn, ?_⟩
    by_cases hji : j = i
    · subst hji
      exact hy.qOp hi H
    · have := hdone _ _ H j (ready_mono hj hji)
      omega
  | succ f ih =>
    intro listed a inv hfree hr hy H
    refine ⟨fun h => (by rw [h] at hr; cases hr), fun j hj => ?_⟩
    have hjn : j < n := Nat.lt_of_not_le fun h => tail_waits hs hc hn inv _ i rfl hin (mem_ready.1 hr).1 j h hj
    refine ⟨hjn, ?_⟩
    by_cases hji : j = i
    · subst hji
      exact hy.qOp hi H
    · obtain ⟨hjun, oj, hoj, hall⟩ := mem_ready.1 hj
      have hun := (mem_ready.1 hr).1
      have hap : oi.apart ops oj = true := hfree j oj hoj hji hjun fun e he hb heq => by
        have h1 := hall e he hb
        rw [heq, getD_both hun] at h1
        cases h1
      have h2 := qOp_put hoj hap (fun cs b => hsel i oi cs b hi) (fun cs b => hsel j oj cs b hoj) hy (H.2 j (ready_mono hj hji)).2
      refine qOp_mono (fun a' h3 => ih (listed.setIfInBounds j true) a' (inv.set hj hjn) (fun k ok hk hki hkun hno => ?_) (ready_mono hr (Ne.symm hji)) h3.1 ?_) h2
      · refine hfree k ok hk hki ?_ hno
        by_cases hjk : j = k
        · subst hjk
          exact hjun
        · rwa [getD_set_ne true hjk] at hkun
      · rw [Array.setIfInBounds_comm _ _ hji]
        exact h3.2

theorem headAny_lex {n g : Nat} {Lq : Act → Prop} (hsel : Region.noSelect ops = true) (hs : Region.sinkB md ops n = true) (hc : Region.chainB md ops n = true) (hn : n < ops.size) :
    ∀ (l : List Oper) (k : Nat) (listed : Array Bool) (a : Act), (∀ j, j < l.length → l[j]? = ops[k + j]?) → k + l.length = n → HeadInv md ops n listed →
    Region.lexHead md ops g l.length k listed = true → wpQuiet P ops C Lq l a →
    headAny P md ops C n (fun listed' a' => Region.seqB md ops g n listed' = true ∧ Lq a') l.length listed a
  | [], k, listed, a, _, hk, _, hB, h => by
    have hkn : k = n := by simpa using hk
    subst hkn
    exact ⟨by simpa [Region.lexHead] using hB, h⟩
  | o :: l, k, listed, a, hl, hk, inv, hB, h => by
    have h0 : ops[k]? = some o := by simpa using (hl 0 (by simp)).symm
    simp only [List.length_cons] at hk
    simp only [List.length_cons, Region.lexHead, Bool.and_eq_true] at hB
    have hr : k ∈ Region.ready md ops listed := by simpa using hB.1.1
    have hq : qOp P ops C k (wpQuiet P ops C Lq l) a := by unfold qOp; simp only [h0]; exact h
    obtain ⟨v, hy, hK⟩ := yieldsIn_of_qOp h0 hq
    refine headAny_first h0 (Region.noSelect_spec hsel) hs hc hn (by omega) (fun listed' a' hL => seqB_ready hL.1) l.length listed a inv (Region.free_spec h0 hB.1.2) hr hy ?_
    exact headAny_lex hsel hs hc hn l (k + 1) _ _ (fun j hj => by have := hl (j + 1) (by simp; omega); simpa [Nat.add_assoc, Nat.add_comm 1 j] using this) (by omega) (inv.set hr (by omega)) hB.2 hK

theorem wp_region_grow_tail {id : Nat} {Q : Exit → Act → World → Prop} {a : Act} {w : World} {l : List Oper} (n : Nat) (hm : P.follows .mixedOrders = true) (hB : Region.lexTailB .any l.toArray n = true)
    (h : wpQuiet P l.toArray (fun w' => ∃ g : Gr w, w' = g.1) (fun a' => ∀ g : Gr w, wpList P l.toArray Q (l.drop n) a' g.1) (l.take n) a) : (Code.region id l.toArray true).wp P Q a w := by
  simp only [Region.lexTailB, Bool.and_eq_true, decide_eq_true_eq] at hB
  obtain ⟨⟨⟨⟨hsel, hn⟩, hs⟩, hc⟩, hlex⟩ := hB
  have hn' : n < l.length := by simpa using hn
  have htl : (l.take n).length = n := by simp; omega
  have hdl : (l.drop n).length = l.toArray.size - n := by simp
  have inv0 : HeadInv .any l.toArray n (Array.replicate l.toArray.size false) :=
    ⟨by simp, fun j oj _ hl => (by rw [getD_replicate_false] at hl; cases hl), fun t _ ht => getD_in (by simpa using ht) (getD_replicate_false _ _)⟩
  have H := headAny_lex (md := .any) (g := l.toArray.size - n) hsel hs hc hn (l.take n) 0 _ a (fun j hj => by
    have hj' : j < n := by rw [htl] at hj; exact hj
    simp [hj']) (by simpa using htl) inv0 (by rw [htl]; exact hlex) h
  refine wp_region_any hm ?_
  have := wpAny_of_headAny (Q := Q) (g := l.toArray.size - n) (fun listed a' w' hw' hL => by
    obtain ⟨g, hg⟩ := hw'
    subst hg
    have := wpAny_of_seq (md := .any) (Q' := Q) (l.drop n) n listed a' g.1 (fun j => by simp [List.getElem?_drop]) (by rw [hdl]; exact hL.1) (hL.2 g)
    rwa [hdl] at this) _ _ _ w.drew ⟨⟨w.drew, (Below.refl _ _).drew⟩, rfl⟩ H
  rw [htl, show n + (l.toArray.size - n) = l.toArray.size by omega] at this
  exact this
/-- The same, where nothing but draws has come. -/
theorem wp_region_draw_tail {id : Nat} {Q : Exit → Act → World → Prop} {a : Act} {w : World} {l : List Oper} (n : Nat) (hm : P.follows .mixedOrders = true) (hB : Region.lexTailB .any l.toArray n = true)
    (h : wpQuiet P l.toArray (fun w' => ∃ q : Nat, w' = w.drewN q) (fun a' => ∀ q : Nat, wpList P l.toArray Q (l.drop n) a' (w.drewN q)) (l.take n) a) : (Code.region id l.toArray true).wp P Q a w := by
  simp only [Region.lexTailB, Bool.and_eq_true, decide_eq_true_eq] at hB
  obtain ⟨⟨⟨⟨hsel, hn⟩, hs⟩, hc⟩, hlex⟩ := hB
  have hn' : n < l.length := by simpa using hn
  have htl : (l.take n).length = n := by simp; omega
  have hdl : (l.drop n).length = l.toArray.size - n := by simp
  have inv0 : HeadInv .any l.toArray n (Array.replicate l.toArray.size false) :=
    ⟨by simp, fun j oj _ hl => (by rw [getD_replicate_false] at hl; cases hl), fun t _ ht => getD_in (by simpa using ht) (getD_replicate_false _ _)⟩
  have H := headAny_lex (md := .any) (g := l.toArray.size - n) hsel hs hc hn (l.take n) 0 _ a (fun j hj => by
    have hj' : j < n := by rw [htl] at hj; exact hj
    simp [hj']) (by simpa using htl) inv0 (by rw [htl]; exact hlex) h
  refine wp_region_any hm ?_
  have := wpAny_of_headAny (Q := Q) (g := l.toArray.size - n) (fun listed a' w' hw' hL => by
    obtain ⟨g, hg⟩ := hw'
    subst hg
    have := wpAny_of_seq (md := .any) (Q' := Q) (l.drop n) n listed a' (w.drewN g) (fun j => by simp [List.getElem?_drop]) (by rw [hdl]; exact hL.1) (hL.2 g)
    rwa [hdl] at this) _ _ _ w.drew ⟨1, rfl⟩ H
  rw [htl, show n + (l.toArray.size - n) = l.toArray.size by omega] at this
  exact this
end
end Go.Proofs.Ytdmiljaiglaacaa
