/- The walks of layer 2: a number's bytes, the highest first, behind others, by the program. -/
import Derived.Test.YtimheacdaafodaaBigRow
import Derived.Test.YtimheacdaafodaaBigPlain
import Derived.WalkKit
import Derived.WalkSpells
import Derived.Lib.SliceRun
namespace Go.Proofs.Ytimheacdaafodaa
open Go.RowKit

theorem sized_any (n : Nat) (w : World) (hn : n = 1 ∨ n = 2 ∨ n = 4 ∨ n = 8) : Calls Try.prog 52 #[.int .i64 n] w fun e w' => e = .returned (.bool true) ∧ w' = w := by
  rcases hn with rfl | rfl | rfl | rfl <;>
  · go_enter Try.func52, Try.ntmps52
    go_wp2
    go_ret
    exact ⟨rfl, rfl⟩
theorem freshB {x : World} {B base : Nat} (h : x.heap[B]? = some (.cells #[] 5 (0, 0))) (hb : base ≤ B) : BRow x base 5 (.slice (some ⟨B, 0, none⟩) 0 0) [] :=
  ⟨rfl, .inr ⟨B, 0, #[], rfl, hb, h, Nat.le_refl _, by unfold maxLen; omega, rfl, rfl⟩⟩
theorem wpList_appBy {w : World} {ops : Array Oper} {rest : List Oper} {o : Oper} {a : Act} {Q : Exit → Act → World → Prop} (hgd : o.guard = none) (s x : Operand) (tx : TypeId)
    (ho : o.op = .call { callee := .builtin .append, args := #[s, x], argTypes := #[46, tx] })
    (base : Nat) (v : Value) (l m : List UInt8) (hv : a.eval s = v) (hown : BRow w base 5 v l)
    (X : Value) (hX : a.eval x = X) (hs : Src Try.prog 1 tx X m.length (cb m) w) (hn : l.length + m.length ≤ 100000000000) (hbase : base ≤ w.heap.size)
    (h : ∀ v' w', BRow w' base 5 v' (l ++ m) → Hop w w' v.ownBlock v'.ownBlock → wpList Try.prog ops Q rest (a.put o.dst v') w') : wpList Try.prog ops Q (o :: rest) a w := by
  obtain ⟨i0, hi, hz0, hz1, hz2⟩ := info_parts infoByte
  exact wpList_append_row hgd s x 46 tx ho base 5 i0 _ 1 1 Try.underlying46 hi hz0 hz1 hz2 rfl v _ _ hv hown X m.length (cb m) hX (fun v' w' h1 h2 => h v' w' (BRow.app h1 rfl) h2) hs (by unfold maxLen; omega) (by omega) hbase
set_option maxHeartbeats 1000000 in
set_option maxRecDepth 100000 in
theorem bclone_any (A : Option Addr) (c : Nat) (l : List UInt8) (w : World) (hx : BAt w A c l) (hn : l.length ≤ 1000000000) (hA : A = none → c = 0) :
    Calls Try.prog 51 #[.slice A l.length c] w fun e w' => ∃ u, e = .returned u ∧ BRow w' w.heap.size 5 u l ∧ Below w.heap.size w w' := by
  have HX := Lib.hid hx
  have qn : ∀ (w : World) (a : Option Addr) (n c : Nat), (binOp .eql 46 (.slice a n c) (.slice none 0 0)).run Try.prog w = .ok (.bool a.isNone) w := fun w a n c => Lib.run_eql_slice_nil w _ _ _ _ _ _ _ Try.underlying46
  clear hx
  cases A with
  | none =>
    obtain rfl : l = [] := by
      cases l with
      | nil => rfl
      | cons x l => obtain ⟨g, o, e, _⟩ := HX.out.2 (by simp); cases e
    obtain rfl := hA rfl
    clear hA HX
    go_enter Try.func51, Try.ntmps51
    go_wp2
    go_ret
    exact ⟨_, rfl, BRow.nil _ _ _, Below.refl _ _⟩
  | some a =>
    clear hA
    go_enter Try.func51, Try.ntmps51
    go_wp2_with (at_builtin; refine wpList_appBy rfl _ _ _ rfl w.heap.size (.slice (some ⟨_, 0, none⟩) 0 0) [] l rfl (freshB (heap_alloc_new _ _) (Nat.le_refl _)) _ rfl (HX.out.grow ((Below.refl _ _).alloc (Nat.le_refl _) _)).src (by simp; omega) (by simp) ?_; intro v1 w1 hr1 hp1)
    have hb1 := Lib.hid (show Below w.heap.size w w1 from Below.trans ((Below.refl _ _).alloc (Nat.le_refl _) _) (hp1.below (by simp) (fun k hk => by cases hk; simp)))
    have HR := Lib.hid hr1
    clear hr1 hp1
    go_ret
    exact ⟨_, rfl, HR.out, hb1.out⟩
set_option maxRecDepth 100000 in
theorem bclip_any (A : Option Addr) (n c : Nat) (w : World) (hn : n ≤ c) (hA : A = none → n = 0) : Calls Try.prog 50 #[.slice A n c] w fun e w' => e = .returned (.slice A n n) ∧ w' = w := by
  go_enter Try.func50, Try.ntmps50
  go_wp2
  go_ret
  exact ⟨rfl, rfl⟩
theorem shr_byte (v j : Nat) : (v : Int) / 2 ^ (8 * j) % 256 = ((UInt8.ofNat (v / 256 ^ j)).toNat : Int) := by
  rw [u8_toNat, show (256 : Nat) ^ j = 2 ^ (8 * j) from by rw [Nat.pow_mul]]
  simp
theorem src_byte {w : World} {B : Nat} {x : Int} {t : TypeId} {fr : Nat × Nat} (hb : w.heap[B]? = some (.cells #[.int .u8 x] t fr)) (y : UInt8) (h : x = (y.toNat : Int)) :
    Src Try.prog 1 46 (.slice (some ⟨B, 0, none⟩) 1 1) [y].length (cb [y]) w := by
  subst h
  exact src_block Try.underlying46 1 1 1 B _ t fr hb rfl (fun u hu => by simp at hu; subst hu; rfl)
set_option maxHeartbeats 1000000 in
set_option maxRecDepth 100000 in
theorem big_any (A : Option Addr) (c : Nat) (b : List UInt8) (v n : Nat) (w : World) (hx : BAt w A c b) (hA : A = none → c = 0) (hb : b.length ≤ 1000000000) (hv : v < 18446744073709551616) (hn : n = 1 ∨ n = 2 ∨ n = 4 ∨ n = 8) :
    Calls Try.prog 36 #[.slice A b.length c, .int .u64 v, .int .i64 n] w fun e w' => ∃ u, e = .returned u ∧ BRow w' w.heap.size 5 u (b ++ bigB n v) ∧ Below w.heap.size w w' := by
  have HC := Lib.hid (bclone_any A c b w hx hb hA)
  have HZ := Lib.hid (fun w => sized_any n w hn)
  have hn8 : 1 ≤ n ∧ n ≤ 8 := by omega
  clear hx hA hn
  go_enter Try.func36, Try.ntmps36
  go_wp2_with fail
  refine HC.out.mono ?_
  rintro e w1 ⟨u, rfl, hr, hb1⟩
  obtain ⟨A1, c1, rfl, hB1⟩ := hr.at_
  have hcl := hr.clip.2
  have HCL := Lib.hid (bclip_any A1 b.length c1 w1 hB1.1 (fun h => by
    rcases hr.2 with ⟨e, h2⟩ | ⟨_, _, _, e, _⟩
    · exact h2
    · cases e; cases h))
  have HR := Lib.hid hcl
  have HB := Lib.hid hb1
  clear hr hb1 hB1 hcl HC
  go_wp2_with fail
  refine HCL.out.mono ?_
  rintro e w2 ⟨rfl, rfl⟩
  go_wp2_with fail
  refine (HZ.out _).mono ?_
  rintro e w2 ⟨rfl, rfl⟩
  clear HZ HCL
  go_wp2_with fail
  go_loopw [7, 8] (fun u t wr => ∃ (k : Nat) (l : List UInt8), k ≤ n ∧ t = .int .i64 ((k : Int) - 1) ∧ l ++ bigB k v = b ++ bigB n v ∧ BGood wr w.heap.size u l ∧ (k < n → BRow wr w.heap.size 5 u l) ∧ Below w.heap.size w wr) (fun _ t _ => (intOf t + 1).toNat)
  case atStart => exact ⟨n, b, Nat.le_refl _, rfl, rfl, HR.out, fun h => absurd h (by omega), HB.out⟩
  case round =>
    obtain ⟨k, l, hk, ht, hl, hg, hrow, hB⟩ := hrel
    have MB := Lib.hid hB
    have MG := Lib.hid hg
    have HRW := Lib.hid hrow
    have HL := Lib.hid hl
    clear hB hg hrow hl HR HB
    cases k with
    | zero =>
      subst ht
      have p1 : decide ((0 : Int) ≤ ((0 : Nat) : Int) - 1) = false := by decide
      obtain rfl : l = b ++ bigB n v := by simpa [bigB] using HL.out
      go_wp2_with fail
      go_ret
      exact ⟨_, rfl, HRW.out (by omega), MB.out⟩
    | succ j =>
      rw [show (((j + 1 : Nat) : Int) - 1) = (j : Int) from by omega] at ht
      subst ht
      have p1 : decide ((0 : Int) ≤ (j : Int)) = true := decide_eq_true (by omega)
      have hlen : l.length + (j + 1) = b.length + n := by
        have := congrArg List.length HL.out
        simpa [bigB_len] using this
      have HL2 := Lib.hid (show (l ++ [UInt8.ofNat (v / 256 ^ j)]) ++ bigB j v = b ++ bigB n v by
        rw [← HL.out, List.append_assoc]; rfl)
      have hbyte := Lib.hid (shr_byte v j)
      have k1 := Lib.hid (fun x => (Below.refl wr.heap.size wr).alloc (Nat.le_refl _) (.cells #[.int .u8 x] 5))
      go_wp2_with (at_builtin; refine wpList_appG rfl _ _ _ rfl w.heap.size _ l [UInt8.ofNat (v / 256 ^ j)] rfl (MG.out.grow (k1.out _)) _ rfl (src_byte (heap_alloc_new _ _) _ hbyte.out) (by simp) (by simp; omega) (Nat.le_trans MB.out.size (k1.out _).size) ?_; intro v3 w3 hr3 hp3)
      have MB3 := Lib.hid ((MB.out.trans ((k1.out _).mono MB.out.size)).trans (hp3.below (Nat.le_trans MB.out.size (k1.out _).size) (fun k hk => MG.out.base_le hk)))
      have HR3 := Lib.hid hr3
      clear hr3 hp3
      go_wp2_with fail
      go_roundw
      case rel => exact ⟨j, _, by omega, by go_num, HL2.out, .inl HR3.out, fun _ => HR3.out, MB3.out⟩
      case measure => simp [intOf]
end Go.Proofs.Ytimheacdaafodaa
