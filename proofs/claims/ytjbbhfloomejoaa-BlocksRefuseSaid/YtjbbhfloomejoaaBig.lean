/- The walks of layer 2: a number's bytes, the highest first, behind others, by the program. -/
import Derived.Test.YtjbbhfloomejoaaBigRow
import Derived.Test.YtjbbhfloomejoaaBigPlain
import Derived.WalkKit
import Derived.WalkSpells
import Derived.Lib.SliceRun
namespace Go.Proofs.Ytjbbhfloomejoaa
open Go.RowKit

theorem freshB {x : World} {B base : Nat} (h : x.heap[B]? = some (.cells #[] 5 (0, 0))) (hb : base ≤ B) : BRow x base 5 (.slice (some ⟨B, 0, none⟩) 0 0) [] :=
  ⟨rfl, .inr ⟨B, 0, #[], rfl, hb, h, Nat.le_refl _, by unfold maxLen; omega, rfl, rfl⟩⟩
theorem wpList_appBy {w : World} {ops : Array Oper} {rest : List Oper} {o : Oper} {a : Act} {Q : Exit → Act → World → Prop} (hgd : o.guard = none) (s x : Operand) (tx : TypeId)
    (ho : o.op = .call { callee := .builtin .append, args := #[s, x], argTypes := #[23, tx] })
    (base : Nat) (v : Value) (l m : List UInt8) (hv : a.eval s = v) (hown : BRow w base 5 v l)
    (X : Value) (hX : a.eval x = X) (hs : Src Try.prog 1 tx X m.length (cb m) w) (hn : l.length + m.length ≤ 100000000000) (hbase : base ≤ w.heap.size)
    (h : ∀ v' w', BRow w' base 5 v' (l ++ m) → Hop w w' v.ownBlock v'.ownBlock → wpList Try.prog ops Q rest (a.put o.dst v') w') : wpList Try.prog ops Q (o :: rest) a w := by
  obtain ⟨i0, hi, hz0, hz1, hz2⟩ := info_parts infoByte
  exact wpList_append_row hgd s x 23 tx ho base 5 i0 _ 1 1 Try.underlying23 hi hz0 hz1 hz2 rfl v _ _ hv hown X m.length (cb m) hX (fun v' w' h1 h2 => h v' w' (BRow.app h1 rfl) h2) hs (by unfold maxLen; omega) (by omega) hbase
set_option maxHeartbeats 1000000 in
set_option maxRecDepth 100000 in
theorem bclone_any (A : Option Addr) (c : Nat) (l : List UInt8) (w : World) (hx : BAt w A c l) (hn : l.length ≤ 1000000000) (hA : A = none → c = 0) :
    Calls Try.prog 45 #[.slice A l.length c] w fun e w' => ∃ u, e = .returned u ∧ BRow w' w.heap.size 5 u l ∧ Below w.heap.size w w' := by
  have HX := Lib.hid hx
  have qn : ∀ (w : World) (a : Option Addr) (n c : Nat), (binOp .eql 23 (.slice a n c) (.slice none 0 0)).run Try.prog w = .ok (.bool a.isNone) w := fun w a n c => Lib.run_eql_slice_nil w _ _ _ _ _ _ _ Try.underlying23
  clear hx
  cases A with
  | none =>
    obtain rfl : l = [] := by
      cases l with
      | nil => rfl
      | cons x l => obtain ⟨g, o, e, _⟩ := HX.out.2 (by simp); cases e
    obtain rfl := hA rfl
    clear hA HX
    go_enter Try.func45, Try.ntmps45
    go_wp2
    go_ret
    exact ⟨_, rfl, BRow.nil _ _ _, Below.refl _ _⟩
  | some a =>
    clear hA
    go_enter Try.func45, Try.ntmps45
    go_wp2_with (at_builtin; refine wpList_appBy rfl _ _ _ rfl w.heap.size (.slice (some ⟨_, 0, none⟩) 0 0) [] l rfl (freshB (heap_alloc_new _ _) (Nat.le_refl _)) _ rfl (HX.out.grow ((Below.refl _ _).alloc (Nat.le_refl _) _)).src (by simp; omega) (by simp) ?_; intro v1 w1 hr1 hp1)
    have hb1 := Lib.hid (show Below w.heap.size w w1 from Below.trans ((Below.refl _ _).alloc (Nat.le_refl _) _) (hp1.below (by simp) (fun k hk => by cases hk; simp)))
    have HR := Lib.hid hr1
    clear hr1 hp1
    go_ret
    exact ⟨_, rfl, HR.out, hb1.out⟩
theorem shr_byte (v j : Nat) : (v : Int) / 2 ^ (8 * j) % 256 = ((UInt8.ofNat (v / 256 ^ j)).toNat : Int) := by
  rw [u8_toNat, show (256 : Nat) ^ j = 2 ^ (8 * j) from by rw [Nat.pow_mul]]
  simp
theorem src_byte {w : World} {B : Nat} {x : Int} {t : TypeId} {fr : Nat × Nat} (hb : w.heap[B]? = some (.cells #[.int .u8 x] t fr)) (y : UInt8) (h : x = (y.toNat : Int)) :
    Src Try.prog 1 23 (.slice (some ⟨B, 0, none⟩) 1 1) [y].length (cb [y]) w := by
  subst h
  exact src_block Try.underlying23 1 1 1 B _ t fr hb rfl (fun u hu => by simp at hu; subst hu; rfl)
end Go.Proofs.Ytjbbhfloomejoaa
