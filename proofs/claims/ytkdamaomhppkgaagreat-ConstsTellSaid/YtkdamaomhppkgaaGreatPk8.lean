/- Joined texts: Bytes, BigRow, BigPlain, Big, BhC, BhD, Cur, CurB, CurC, BhE, BhF. -/
import Derived.Test.YtkdamaomhppkgaaGreatPk1
import Derived.Test.YtkdamaomhppkgaaGreatProg
import Derived.Lib.Hide
import Derived.Laws.OwnMore
import Derived.WalkKit
import Derived.WalkSpells
import Derived.Lib.SliceRun
import Derived.Test.YtkdamaomhppkgaaGreatPk7
import Derived.LoopN
import Derived.BigRegion
import Derived.Test.YtkdamaomhppkgaaGreatPk4
/- Rows of bytes that are read. -/
namespace Go.Proofs.YtkdamaomhppkgaaGreat
open Go.RowKit

theorem addr_addB (g o j : Nat) : Addr.add ⟨g, o, none⟩ j = ⟨g, o + j, none⟩ := by unfold Addr.add; split <;> simp_all
def BAt (w : World) (A : Option Addr) (c : Nat) (l : List UInt8) : Prop :=
  l.length ≤ c ∧ (0 < l.length → ∃ g o, A = some ⟨g, o, none⟩ ∧ g < w.heap.size ∧ ∀ (j : Nat) x, l[j]? = some x → w.cell? ⟨g, o + j, none⟩ = some (.int .u8 (x.toNat : Int)))
theorem BAt.keep {w w' : World} {A : Option Addr} {c : Nat} {l : List UInt8} (h : BAt w A c l) {B : Nat} (k : Below B w w') (hB : ∀ g o, A = some ⟨g, o, none⟩ → 0 < l.length → g < B) : BAt w' A c l :=
  ⟨h.1, fun hp => by
    obtain ⟨g, o, e, hg, hc⟩ := h.2 hp
    exact ⟨g, o, e, Nat.lt_of_lt_of_le hg (k.size), fun j x hx => (k.cell (p := ⟨g, _, none⟩) (hB g o e hp)).trans (hc j x hx)⟩⟩
theorem BAt.grow {w w' : World} {A : Option Addr} {c : Nat} {l : List UInt8} (h : BAt w A c l) (k : Below w.heap.size w w') : BAt w' A c l :=
  ⟨h.1, fun hp => by
    obtain ⟨g, o, e, hg, hc⟩ := h.2 hp
    exact ⟨g, o, e, Nat.lt_of_lt_of_le hg k.size, fun j x hx => (k.cell (p := ⟨g, _, none⟩) hg).trans (hc j x hx)⟩⟩
theorem BAt.nil (w : World) (A : Option Addr) (c : Nat) : BAt w A c [] := ⟨Nat.zero_le _, fun h => by simp at h⟩
theorem BAt.at_ {w : World} {A : Option Addr} {c : Nat} {b : List UInt8} (h : BAt w A c b) {i : Nat} (hi : i < b.length) : ∃ g o x, A = some ⟨g, o, none⟩ ∧ g < w.heap.size ∧ b[i]? = some x ∧ w.cell? ⟨g, o + i, none⟩ = some (.int .u8 (x.toNat : Int)) := by
  obtain ⟨g, o, e, hg, hc⟩ := h.2 (by omega)
  exact ⟨g, o, _, e, hg, List.getElem?_eq_getElem hi, hc i _ (List.getElem?_eq_getElem hi)⟩
theorem BAt.take {w : World} {A : Option Addr} {c : Nat} {b : List UInt8} (h : BAt w A c b) (k : Nat) : BAt w A c (b.take k) := by
  refine ⟨Nat.le_trans (by rw [List.length_take]; omega) h.1, fun hp => ?_⟩
  rw [List.length_take] at hp
  obtain ⟨g, o, e, hg, hc⟩ := h.2 (by omega)
  refine ⟨g, o, e, hg, fun j p hj => hc j p ?_⟩
  rw [List.getElem?_take] at hj
  split at hj
  · exact hj
  · cases hj
theorem BAt.text {w : World} {A : Option Addr} {c : Nat} {l : List UInt8} (h : BAt w A c l) : (convert 23 9 (.slice A l.length c)).run Tryz.prog w = .ok (.string (bs l)) w := by
  by_cases h0 : l.length = 0
  · obtain rfl := List.eq_nil_of_length_eq_zero h0
    cases A with
    | none =>
      rw [run_convert_bytes_string w 23 9 5 none ([] : List UInt8).length c Tryz.underlying23 Tryz.underlying5 Tryz.underlying9]
      rfl
    | some a => exact run_convert_bytes_back (P := Tryz.prog) w 23 9 5 a c [] Tryz.underlying23 Tryz.underlying5 Tryz.underlying9 (fun j hj => by simp at hj)
  · obtain ⟨g, o, rfl, hg, hc⟩ := h.2 (by omega)
    exact run_convert_bytes_back (P := Tryz.prog) w 23 9 5 ⟨g, o, none⟩ c l Tryz.underlying23 Tryz.underlying5 Tryz.underlying9 (fun j hj => by
      rw [addr_addB]; exact hc j _ (List.getElem?_eq_getElem hj))
theorem infoByte : (Tryz.prog.info? 5).map (fun i => (i.zero, i.size, i.bytes)) = some (some (.int .u8 0), 1, 1) := by kernel_rfl
theorem BRow.at_ {w : World} {base : Nat} {v : Value} {l : List UInt8} (h : BRow w base 5 v l) : ∃ A c, v = .slice A l.length c ∧ BAt w A c l := by
  have hc := fun (g : Nat) (hg : v.ownBlock = some g) => World.ownsRow.cells h hg
  rcases h.2 with ⟨rfl, hn⟩ | ⟨g, cap, cur, rfl, h1, h2, h3, _⟩
  · obtain rfl : l = [] := List.eq_nil_of_length_eq_zero hn
    exact ⟨none, 0, rfl, BAt.nil _ _ _⟩
  · refine ⟨_, cap, rfl, h3, fun _ => ⟨g, 0, rfl, (Array.getElem?_eq_some_iff.1 h2).1, fun j x hx => ?_⟩⟩
    have := hc g rfl j (.int .u8 (x.toNat : Int)) (by simp [cb, hx])
    rw [addr_addB] at this
    exact this
/-- Bytes that are read, as a source. -/
theorem BAt.src {w : World} {A : Option Addr} {c : Nat} {l : List UInt8} (h : BAt w A c l) : Src Tryz.prog 1 23 (.slice A l.length c) l.length (cb l) w := by
  by_cases h0 : l.length = 0
  · obtain rfl := List.eq_nil_of_length_eq_zero h0
    cases A with
    | none => exact Src.ofNil w Tryz.underlying23 c
    | some a => exact Src.ofSlice w Tryz.underlying23 a 0 c [] rfl (fun j u hu => by simp at hu) (fun u hu => by cases hu)
  · obtain ⟨g, o, rfl, hg, hc⟩ := h.2 (by omega)
    refine Src.ofSlice w Tryz.underlying23 ⟨g, o, none⟩ _ c (cb l) (by simp [cb]) (fun j u hu => ?_) (fun u hu => ?_)
    · rw [addr_addB]
      have : ∃ x, l[j]? = some x ∧ u = .int .u8 (x.toNat : Int) := by
        simp only [cb, List.getElem?_map, Option.map_eq_some_iff] at hu
        obtain ⟨x, h1, h2⟩ := hu
        exact ⟨x, h1, h2.symm⟩
      obtain ⟨x, hx, rfl⟩ := this
      exact hc j x hx
    · simp only [cb, List.mem_map] at hu
      obtain ⟨x, _, rfl⟩ := hu
      rfl
end Go.Proofs.YtkdamaomhppkgaaGreat

/- append onto a row that is the call's own, or one that is read and full (as slices.Clip leaves it). -/
namespace Go.Proofs.YtkdamaomhppkgaaGreat
open Go.RowKit

def BGood (w : World) (base : Nat) (u : Value) (l : List UInt8) : Prop :=
  BRow w base 5 u l ∨ ∃ g, u = .slice (some ⟨g, 0, none⟩) l.length l.length ∧ base ≤ g ∧ g < w.heap.size ∧ BAt w (some ⟨g, 0, none⟩) l.length l
theorem BGood.base_le {w : World} {base : Nat} {u : Value} {l : List UInt8} (h : BGood w base u l) {k : Nat} (hk : u.ownBlock = some k) : base ≤ k := by
  rcases h with h | ⟨g, rfl, hg, _⟩
  · exact (World.ownsRow.lt h k hk).1
  · cases hk; exact hg
theorem BGood.reads {w : World} {base : Nat} {u : Value} {l : List UInt8} (h : BGood w base u l) : ∃ A c, u = .slice A l.length c ∧ BAt w A c l := by
  rcases h with h | ⟨g, rfl, _, _, h⟩
  · exact h.at_
  · exact ⟨_, _, rfl, h⟩
theorem BGood.grow {w w' : World} {base : Nat} {u : Value} {l : List UInt8} (h : BGood w base u l) (k : Below w.heap.size w w') : BGood w' base u l := by
  rcases h with h | ⟨g, rfl, h1, h2, h3⟩
  · exact .inl (h.grow k)
  · exact .inr ⟨g, rfl, h1, Nat.lt_of_lt_of_le h2 k.size, h3.grow k⟩
/-- What Clip makes of a row. -/
theorem BRow.clip {w : World} {base : Nat} {A : Option Addr} {n c : Nat} {l : List UInt8} (h : BRow w base 5 (.slice A n c) l) : n = l.length ∧ BGood w base (.slice A n n) l := by
  obtain ⟨A', c', e, hb⟩ := h.at_
  cases e
  refine ⟨rfl, ?_⟩
  rcases h.2 with ⟨e, hn⟩ | ⟨g, cap, cur, e, h1, h2, h3, _⟩
  · obtain rfl : l = [] := List.eq_nil_of_length_eq_zero hn
    cases e
    exact .inl (BRow.nil _ _ _)
  · cases e
    exact .inr ⟨g, rfl, h1, (Array.getElem?_eq_some_iff.1 h2).1, Nat.le_refl _, hb.2⟩
theorem run_append_good (w : World) (tx ty : TypeId) (base : Nat) (v : Value) (l : List UInt8) (h : BGood w base v l) (x : Value) (m : Nat) (news : List Value) (hs : Src Tryz.prog 1 tx x m news w)
    (hm : 1 ≤ m) (hn : l.length + m ≤ 100000000000) (hbase : base ≤ w.heap.size) :
    ∃ v' w', (Builtin.append_ #[23, tx] ty #[v, x]).run Tryz.prog w = .ok v' w' ∧ w'.ownsRow base 5 1 v' (l.length + m) (cb l ++ news) ∧ Hop w w' v.ownBlock v'.ownBlock := by
  obtain ⟨i0, hi, hz0, hz1, hz2⟩ := info_parts infoByte
  rcases h with h | ⟨g, rfl, h1, h2, h3⟩
  · exact run_append_row w 23 tx ty 5 base i0 _ 1 1 Tryz.underlying23 hi hz0 hz1 hz2 rfl v _ _ h x m news hs (by unfold maxLen; omega) (by omega) hbase
  · have hlen : (cb l ++ news).length = (l.length + m) * 1 := by rw [List.length_append, cb_length, hs.newsLen]; omega
    have hold : (Builtin.firstCells i0.size l.length (.slice (some ⟨g, 0, none⟩) l.length l.length)).run Tryz.prog w.drew = .ok (cb l).toArray w.drew := by
      rw [hz1]
      refine run_firstCells_some (P := Tryz.prog) w.drew 1 l.length ⟨g, 0, none⟩ l.length l.length (cb l) (by rw [cb_length]; omega) fun j u hj => ?_
      obtain ⟨x, hx, rfl⟩ : ∃ x, l[j]? = some x ∧ u = .int .u8 (x.toNat : Int) := by
        simp only [cb, List.getElem?_map, Option.map_eq_some_iff] at hj
        obtain ⟨x, h1, h2⟩ := hj
        exact ⟨x, h1, h2.symm⟩
      obtain ⟨g', o', e, _, hc⟩ := h3.2 (by have := (List.getElem?_eq_some_iff.1 hx).1; omega)
      cases e
      rw [addr_addB]
      exact hc j x hx
    have hr := run_append_grow_src (P := Tryz.prog) w 23 tx ty 5 i0 _ Tryz.underlying23 hi hz0 (some ⟨g, 0, none⟩) l.length l.length (cb l) hold x m news (by rw [hz1]; exact hs) (by omega) (by omega) (growslice_fits (by omega) (by rw [hz2]; omega))
    refine ⟨_, _, hr, ⟨hlen, .inr ⟨w.heap.size, _, _, rfl, hbase, heap_alloc_new w.drew _, grownCap_ge w (l.length + m) l.length 5, grownCap_le_maxLen w (l.length + m) l.length 5 (by unfold maxLen; omega), ?_, ?_⟩⟩, ⟨rfl, rfl, rfl, by simp, fun k hk _ => heap_alloc_old w.drew _ hk⟩, .inr ⟨_, Nat.le_refl _, rfl⟩⟩
    · have := grownCap_ge w (l.length + m) l.length 5
      simp only [Array.size_append, List.size_toArray, size_zeroCells, hlen]
      rw [show (Value.int .u8 0).cells.size = 1 from rfl]
      omega
    · simp only [Array.toList_append]
      rw [← hlen]
      exact List.take_left
theorem wpList_appG {w : World} {ops : Array Oper} {rest : List Oper} {o : Oper} {a : Act} {Q : Exit → Act → World → Prop} (hgd : o.guard = none) (s x : Operand) (tx : TypeId)
    (ho : o.op = .call { callee := .builtin .append, args := #[s, x], argTypes := #[23, tx] })
    (base : Nat) (v : Value) (l m : List UInt8) (hv : a.eval s = v) (hown : BGood w base v l)
    (X : Value) (hX : a.eval x = X) (hs : Src Tryz.prog 1 tx X m.length (cb m) w) (hm : 1 ≤ m.length) (hn : l.length + m.length ≤ 100000000000) (hbase : base ≤ w.heap.size)
    (h : ∀ v' w', BRow w' base 5 v' (l ++ m) → Hop w w' v.ownBlock v'.ownBlock → wpList Tryz.prog ops Q rest (a.put o.dst v') w') : wpList Tryz.prog ops Q (o :: rest) a w :=
  wpList_plain hgd fun _ hK => by
    obtain ⟨v', w', hr, h2, h3⟩ := run_append_good w tx o.type base v l hown X m.length (cb m) hs hm hn hbase
    unfold Oper.wp execOp
    simp only [ho, resolve, invoke, builtin, Sem.run_bind, Sem.run_pure, Result.andThen_ok, List.map_toArray, List.map_cons, List.map_nil, hv, hX, hr]
    exact hK _ _ (h v' w' (BRow.app h2 rfl) h3)
end Go.Proofs.YtkdamaomhppkgaaGreat

/- Numbers of whole bytes, the highest first. No program. -/
namespace Go.Proofs.YtkdamaomhppkgaaGreat

def bigB : Nat → Nat → List UInt8
  | 0, _ => []
  | n + 1, v => UInt8.ofNat (v / 256 ^ n) :: bigB n v
def litB : Nat → Nat → List UInt8
  | 0, _ => []
  | n + 1, v => UInt8.ofNat v :: litB n (v / 256)
theorem bigB_len : ∀ n v, (bigB n v).length = n
  | 0, _ => rfl
  | n + 1, v => by simp only [bigB, List.length_cons, bigB_len n v]
theorem litB_len : ∀ n v, (litB n v).length = n
  | 0, _ => rfl
  | n + 1, v => by simp only [litB, List.length_cons, litB_len n]
theorem bigB_snoc : ∀ n v, bigB (n + 1) v = bigB n (v / 256) ++ [UInt8.ofNat v]
  | 0, v => by simp [bigB]
  | n + 1, v => by
    rw [bigB, bigB_snoc n v, bigB, List.cons_append, Nat.div_div_eq_div_mul, Nat.pow_succ, Nat.mul_comm]
theorem litB_rev : ∀ n v, (litB n v).reverse = bigB n v
  | 0, _ => rfl
  | n + 1, v => by rw [litB, List.reverse_cons, litB_rev n, bigB_snoc]
theorem litB_snoc : ∀ n v, litB (n + 1) v = litB n v ++ [UInt8.ofNat (v / 256 ^ n)]
  | 0, v => by simp [litB]
  | n + 1, v => by
    rw [litB, litB_snoc n (v / 256), litB, List.cons_append, Nat.div_div_eq_div_mul, Nat.pow_succ, Nat.mul_comm]
theorem u8_toNat (x : Nat) : (UInt8.ofNat x).toNat = x % 256 := UInt8.toNat_ofNat' ..
end Go.Proofs.YtkdamaomhppkgaaGreat

/- The walks of layer 2: a number's bytes, the highest first, behind others, by the program. -/
namespace Go.Proofs.YtkdamaomhppkgaaGreat
open Go.RowKit

theorem sized_any (n : Nat) (w : World) (hn : n = 1 ∨ n = 2 ∨ n = 4 ∨ n = 8) : Calls Tryz.prog 81 #[.int .i64 n] w fun e w' => e = .returned (.bool true) ∧ w' = w := by
  rcases hn with rfl | rfl | rfl | rfl <;>
  · go_enter Tryz.func81, Tryz.ntmps81
    go_wp2
    go_ret
    exact ⟨rfl, rfl⟩
theorem freshB {x : World} {B base : Nat} (h : x.heap[B]? = some (.cells #[] 5 (0, 0))) (hb : base ≤ B) : BRow x base 5 (.slice (some ⟨B, 0, none⟩) 0 0) [] :=
  ⟨rfl, .inr ⟨B, 0, #[], rfl, hb, h, Nat.le_refl _, by unfold maxLen; omega, rfl, rfl⟩⟩
theorem wpList_appBy {w : World} {ops : Array Oper} {rest : List Oper} {o : Oper} {a : Act} {Q : Exit → Act → World → Prop} (hgd : o.guard = none) (s x : Operand) (tx : TypeId)
    (ho : o.op = .call { callee := .builtin .append, args := #[s, x], argTypes := #[23, tx] })
    (base : Nat) (v : Value) (l m : List UInt8) (hv : a.eval s = v) (hown : BRow w base 5 v l)
    (X : Value) (hX : a.eval x = X) (hs : Src Tryz.prog 1 tx X m.length (cb m) w) (hn : l.length + m.length ≤ 100000000000) (hbase : base ≤ w.heap.size)
    (h : ∀ v' w', BRow w' base 5 v' (l ++ m) → Hop w w' v.ownBlock v'.ownBlock → wpList Tryz.prog ops Q rest (a.put o.dst v') w') : wpList Tryz.prog ops Q (o :: rest) a w := by
  obtain ⟨i0, hi, hz0, hz1, hz2⟩ := info_parts infoByte
  exact wpList_append_row hgd s x 23 tx ho base 5 i0 _ 1 1 Tryz.underlying23 hi hz0 hz1 hz2 rfl v _ _ hv hown X m.length (cb m) hX (fun v' w' h1 h2 => h v' w' (BRow.app h1 rfl) h2) hs (by unfold maxLen; omega) (by omega) hbase
set_option maxHeartbeats 1000000 in
set_option maxRecDepth 100000 in
theorem bclone_any (A : Option Addr) (c : Nat) (l : List UInt8) (w : World) (hx : BAt w A c l) (hn : l.length ≤ 1000000000) (hA : A = none → c = 0) :
    Calls Tryz.prog 32 #[.slice A l.length c] w fun e w' => ∃ u, e = .returned u ∧ BRow w' w.heap.size 5 u l ∧ Below w.heap.size w w' := by
  have HX := Lib.hid hx
  have qn : ∀ (w : World) (a : Option Addr) (n c : Nat), (binOp .eql 23 (.slice a n c) (.slice none 0 0)).run Tryz.prog w = .ok (.bool a.isNone) w := fun w a n c => Lib.run_eql_slice_nil w _ _ _ _ _ _ _ Tryz.underlying23
  clear hx
  cases A with
  | none =>
    obtain rfl : l = [] := by
      cases l with
      | nil => rfl
      | cons x l => obtain ⟨g, o, e, _⟩ := HX.out.2 (by simp); cases e
    obtain rfl := hA rfl
    clear hA HX
    go_enter Tryz.func32, Tryz.ntmps32
    go_wp2
    go_ret
    exact ⟨_, rfl, BRow.nil _ _ _, Below.refl _ _⟩
  | some a =>
    clear hA
    go_enter Tryz.func32, Tryz.ntmps32
    go_wp2_with (at_builtin; refine wpList_appBy rfl _ _ _ rfl w.heap.size (.slice (some ⟨_, 0, none⟩) 0 0) [] l rfl (freshB (heap_alloc_new _ _) (Nat.le_refl _)) _ rfl (HX.out.grow ((Below.refl _ _).alloc (Nat.le_refl _) _)).src (by simp; omega) (by simp) ?_; intro v1 w1 hr1 hp1)
    have hb1 := Lib.hid (show Below w.heap.size w w1 from Below.trans ((Below.refl _ _).alloc (Nat.le_refl _) _) (hp1.below (by simp) (fun k hk => by cases hk; simp)))
    have HR := Lib.hid hr1
    clear hr1 hp1
    go_ret
    exact ⟨_, rfl, HR.out, hb1.out⟩
theorem shr_byte (v j : Nat) : (v : Int) / 2 ^ (8 * j) % 256 = ((UInt8.ofNat (v / 256 ^ j)).toNat : Int) := by
  rw [u8_toNat, show (256 : Nat) ^ j = 2 ^ (8 * j) from by rw [Nat.pow_mul]]
  simp
theorem src_byte {w : World} {B : Nat} {x : Int} {t : TypeId} {fr : Nat × Nat} (hb : w.heap[B]? = some (.cells #[.int .u8 x] t fr)) (y : UInt8) (h : x = (y.toNat : Int)) :
    Src Tryz.prog 1 23 (.slice (some ⟨B, 0, none⟩) 1 1) [y].length (cb [y]) w := by
  subst h
  exact src_block Tryz.underlying23 1 1 1 B _ t fr hb rfl (fun u hu => by simp at hu; subst hu; rfl)
end Go.Proofs.YtkdamaomhppkgaaGreat

/- The walks of layer 24: a plain number's bytes, and a row's. -/
namespace Go.Proofs.YtkdamaomhppkgaaGreat
open Go.RowKit

theorem ok_h {c : Cod} (hc : c.ok) : 2 ≤ c.h ∧ c.h ≤ 256 := ⟨hc.2.2.1, hc.2.2.2.1⟩
theorem ok_b {c : Cod} (hc : c.ok) : 1 ≤ c.b ∧ c.b ≤ 5 := ⟨hc.1, hc.2.1⟩
theorem reachU_big {h : Nat} (hh : h ≤ 256) {k : Nat} (hk : k ≤ 4) : reachU h k ≤ 1099511627776 := Nat.le_trans (reachU_le h hh k) (Nat.pow_le_pow_right (by decide : 0 < 256) (by omega : k + 1 ≤ 5))
theorem Hop.of_below {w w1 : World} (k : Below w.heap.size w w1) (o : Option Nat) : Hop w w1 o o := (Hop.refl w o).grow k
theorem hop_base {w w1 : World} {base : Nat} {v v' : Value} {l : List UInt8} (h : BRow w base 5 v l) (k : Hop w w1 v.ownBlock v'.ownBlock) {B : Nat} (hB : B ≤ base) (hw : B ≤ w.heap.size) : Below B w w1 :=
  k.below hw (fun _ e => Nat.le_trans hB (World.ownsRow.lt h _ e).1)
theorem u8_of (x : Int) (n : Nat) (h : x = (n : Int)) : x % 256 = ((UInt8.ofNat n).toNat : Int) := by
  subst h
  rw [u8_toNat]
  omega
/-- A box of another type is as it was. -/
theorem box_hop {w w1 : World} {base : Nat} {v v' : Value} {l : List UInt8} (h : BRow w base 5 v l) (hp : Hop w w1 v.ownBlock v'.ownBlock) {g : Nat} {cs : Array Value} {t : TypeId} (hb : w.heap[g]? = some (.cells cs t (0, 0))) (ht : t ≠ 5) : w1.heap[g]? = some (.cells cs t (0, 0)) :=
  (hp.1.block g (Array.getElem?_eq_some_iff.1 hb).1 (own_ne h hb ht)).trans hb
set_option maxHeartbeats 2000000 in
set_option maxRecDepth 100000 in
theorem bhput_any (c : Cod) (hc : c.ok) (u : Nat) (hu : u < reachU c.h (c.b - 1)) (v : Value) (l : List UInt8) (base : Nat) (w : World) (hr : BRow w base 5 v l) (hl : l.length ≤ 100000000) (hbase : base ≤ w.heap.size) :
    Calls Tryz.prog 101 #[v, c.val, .int .i64 u] w fun ex y => ∃ v', ex = .returned v' ∧ BRow y base 5 v' (l ++ putU c.h (c.b - 1) u) ∧ Hop w y v.ownBlock v'.ownBlock := by
  have hh := ok_h hc
  have hb := ok_b hc
  have hub := reachU_big hh.2 (k := c.b - 1) (by omega)
  have HR := Lib.hid hr
  unfold Cod.val
  generalize c.b = B at *
  generalize c.h = H at *
  generalize c.s = S at *
  generalize c.d = D at *
  clear hc c hr
  go_enter Tryz.func101, Tryz.ntmps101
  go_wp2_with fail
  go_loopw [0, 2, 14] (fun x s t wr => ∃ (i U : Nat) (L : List UInt8), i ≤ B - 1 ∧ t = .int .i64 i ∧ s = .int .i64 U ∧ U < reachU H (B - 1 - i) ∧ U ≤ u ∧ L ++ putU H (B - 1 - i) U = l ++ putU H (B - 1) u ∧ L.length ≤ l.length + i ∧ BRow wr base 5 x L ∧ Hop w wr v.ownBlock x.ownBlock ∧ wr.heap[w.heap.size]? = some (.cells #[.int .i64 B, .int .i64 H, .int .i64 S, .int .i64 D] 122 (0, 0)) ∧ base ≤ wr.heap.size) (fun _ _ t _ => B - (intOf t).toNat)
  case atStart => exact ⟨0, u, l, Nat.zero_le _, rfl, rfl, hu, Nat.le_refl _, rfl, by omega, HR.out.grow ((Below.refl _ _).alloc (Nat.le_refl _) _), Hop.of_below ((Below.refl _ _).alloc (Nat.le_refl _) _) _, heap_alloc_new _ _, by simp; omega⟩
  case round =>
    obtain ⟨i, U, L, hi, rfl, rfl, hU, hUu, hL, hLl, hrow, hop, hbx, hbw⟩ := hrel
    obtain ⟨A, cc, rfl, _⟩ := hrow.at_
    have c0 := (blk_facts hbx).1 0
    have c1 := (blk_facts hbx).1 1
    have hz := (Array.getElem?_eq_some_iff.1 hbx).1
    have HX := Lib.hid hbx
    have HO := Lib.hid hrow
    have HP := Lib.hid hop
    have HL := Lib.hid hL
    have k1 := Lib.hid (fun (y : Obj) => (Below.refl wr.heap.size wr).alloc (Nat.le_refl _) y)
    have hUb : U ≤ 1099511627776 := by omega
    clear hbx hrow hop hL hub hu HR
    by_cases h1 : i < B - 1 ∧ 256 - H ≤ U
    · have p1 : decide ((i : Int) < (B : Int) - 1) = true := decide_eq_true (by omega)
      have p2 : decide ((U : Int) < 256 - (H : Int)) = false := decide_eq_false (by omega)
      obtain ⟨k, hk⟩ : ∃ k, B - 1 - i = k + 1 := ⟨B - 1 - i - 1, by omega⟩
      have e1 : 256 - (H : Int) + ((U : Int) - (256 - (H : Int))) % (H : Int) = ((256 - H + (U - (256 - H)) % H : Nat) : Int) := by
        rw [Int.natCast_add, Int.natCast_emod, Int.ofNat_sub hh.2, Int.ofNat_sub h1.2, Int.ofNat_sub hh.2]; rfl
      have e2 : ((U : Int) - (256 - (H : Int))) / (H : Int) = (((U - (256 - H)) / H : Nat) : Int) := by
        rw [Int.natCast_ediv, Int.ofNat_sub h1.2, Int.ofNat_sub hh.2]; rfl
      have hm : (U - (256 - H)) % H < H := Nat.mod_lt _ (by omega)
      have hd : (U - (256 - H)) / H < reachU H k := by
        rw [hk] at hU
        simp only [reachU] at hU
        rw [Nat.div_lt_iff_lt_mul (by omega), Nat.mul_comm]
        omega
      have hd2 : (U - (256 - H)) / H ≤ U := Nat.le_trans (Nat.div_le_self _ _) (by omega)
      have e3 := Lib.hid (show wrap64 (256 - (H : Int) + ((U : Int) - (256 - (H : Int))) % (H : Int)) % 256 = ((UInt8.ofNat (256 - H + (U - (256 - H)) % H)).toNat : Int) by
        rw [e1, show wrap64 ((256 - H + (U - (256 - H)) % H : Nat) : Int) = ((256 - H + (U - (256 - H)) % H : Nat) : Int) from by unfold wrap64; omega]
        exact u8_of _ _ rfl)
      have E1 := Lib.hid e1
      have E2 := Lib.hid e2
      clear e1 e2
      have HL2 := Lib.hid (show (L ++ [UInt8.ofNat (256 - H + (U - (256 - H)) % H)]) ++ putU H (B - 1 - (i + 1)) ((U - (256 - H)) / H) = l ++ putU H (B - 1) u by
        rw [← HL.out, List.append_assoc, hk, show B - 1 - (i + 1) = k from by omega]
        congr 1
        conv => rhs; unfold putU
        rw [if_neg (by omega)]; rfl)
      have HD := Lib.hid (show (U - (256 - H)) / H < reachU H (B - 1 - (i + 1)) by rw [show B - 1 - (i + 1) = k from by omega]; exact hd)
      generalize (U - (256 - H)) % H = r at *
      generalize (U - (256 - H)) / H = q at *
      have hp2 : ¬ ((U : Int) - (256 - (H : Int)) < 0) := by omega
      have hH0 : ((H : Int) == 0) = false := by simp; omega
      go_wp2_with (at_builtin; refine wpList_appBy rfl _ _ _ rfl base _ L [UInt8.ofNat (256 - H + r)] rfl (HO.out.grow (k1.out _)) _ rfl (src_byte (heap_alloc_new _ _) _ e3.out) (by simp; omega) (Nat.le_trans hbw (k1.out _).size) ?_; intro v3 w3 hr3 hp3; have hx3 := box_hop (HO.out.grow (k1.out _)) hp3 (((k1.out _).block _ hz).trans HX.out) (by decide); have d1 := (blk_facts hx3).1 1; have hz3 := (Array.getElem?_eq_some_iff.1 hx3).1; have HX3 := Lib.hid hx3; have HR3 := Lib.hid hr3; have HP3 := Lib.hid ((HP.out.grow (k1.out _)).trans hp3); have HS3 := Lib.hid (Nat.le_trans hbw (Nat.le_trans (k1.out _).size hp3.1.size)); clear hx3 hr3 hp3)
      go_roundw
      case rel => exact ⟨i + 1, q, _, by omega, by go_num, by rw [E2.out], HD.out, by omega, HL2.out, by simp; omega, HR3.out, HP3.out, HX3.out, HS3.out⟩
      case measure => simp [intOf]; omega
    · have hend : putU H (B - 1 - i) U = [UInt8.ofNat U] ∧ (decide ((i : Int) < (B : Int) - 1) = false ∨ (decide ((i : Int) < (B : Int) - 1) = true ∧ decide ((U : Int) < 256 - (H : Int)) = true)) := by
        by_cases h2 : i < B - 1
        · obtain ⟨k, hk⟩ : ∃ k, B - 1 - i = k + 1 := ⟨B - 1 - i - 1, by omega⟩
          refine ⟨?_, .inr ⟨decide_eq_true (by omega), decide_eq_true (by omega)⟩⟩
          rw [hk]; unfold putU; rw [if_pos (by omega)]
        · refine ⟨?_, .inl (decide_eq_false (by omega))⟩
          rw [show B - 1 - i = 0 from by omega]; rfl
      obtain ⟨he, hcase⟩ := hend
      have HL2 := Lib.hid (show L ++ [UInt8.ofNat U] = l ++ putU H (B - 1) u by rw [← HL.out, he])
      have e3 := Lib.hid (u8_of _ U rfl)
      clear he HL h1
      rcases hcase with p1 | ⟨p1, p2⟩
      all_goals
        go_wp2_with (at_builtin; refine wpList_appBy rfl _ _ _ rfl base _ L [UInt8.ofNat U] rfl (HO.out.grow (k1.out _)) _ rfl (src_byte (heap_alloc_new _ _) _ e3.out) (by simp; omega) (Nat.le_trans hbw (k1.out _).size) ?_; intro v3 w3 hr3 hp3; have HR3 := Lib.hid hr3; have HP3 := Lib.hid ((HP.out.grow (k1.out _)).trans hp3); clear hr3 hp3)
        go_ret
        exact ⟨_, rfl, HL2.out ▸ HR3.out, HP3.out⟩
end Go.Proofs.YtkdamaomhppkgaaGreat

/- The walk of layer 24: a row's bytes. -/
namespace Go.Proofs.YtkdamaomhppkgaaGreat
open Go.RowKit

theorem drop_atI {α : Type} {l : List α} {i : Nat} {x : α} (h : l[i]? = some x) : l.drop i = x :: l.drop (i + 1) := by
  obtain ⟨h3, rfl⟩ := List.getElem?_eq_some_iff.1 h
  exact List.drop_eq_getElem_cons h3
theorem putU_leB (h : Nat) : ∀ (k u : Nat), (putU h k u).length ≤ k + 1
  | 0, u => by simp [putU]
  | k + 1, u => by
    have := putU_leB h k ((u - (256 - h)) / h)
    unfold putU
    split
    · simp
    · simp only [List.length_cons]; omega
/-- A box with a coding. -/
def CBox (w : World) (g : Nat) (c : Cod) : Prop := w.heap[g]? = some (.cells #[.int .i64 c.b, .int .i64 c.h, .int .i64 c.s, .int .i64 c.d] 122 (0, 0))
theorem CBox.grow {w w1 : World} {g : Nat} {c : Cod} (h : CBox w g c) (k : Below w.heap.size w w1) : CBox w1 g c := (k.block g (Array.getElem?_eq_some_iff.1 h).1).trans h
theorem putU_le5 {c : Cod} (hc : c.ok) (u : Nat) : (putU c.h (c.b - 1) u).length ≤ 5 := by
  have := putU_leB c.h (c.b - 1) u
  have := ok_b hc
  omega
/-- What a row's writing comes to. -/
def RowRes (o : Option (List UInt8)) (w : World) (ex : Ending) (y : World) : Prop :=
  match o with
  | none => ex = .returned (.tuple #[.slice none 0 0, .int .i64 5]) ∧ Below w.heap.size w y
  | some b => ∃ u, ex = .returned (.tuple #[u, .int .i64 0]) ∧ BRow y w.heap.size 5 u b ∧ Below w.heap.size w y
theorem rowRes_none {o : Option (List UInt8)} (h : o = none) {w y : World} {ex : Ending} (he : ex = .returned (.tuple #[.slice none 0 0, .int .i64 5])) (hb : Below w.heap.size w y) : RowRes o w ex y := by subst h; exact ⟨he, hb⟩
theorem rowRes_some {o : Option (List UInt8)} {b : List UInt8} (h : o = some b) {w y : World} {ex : Ending} {u : Value} (he : ex = .returned (.tuple #[u, .int .i64 0])) (hr : BRow y w.heap.size 5 u b) (hb : Below w.heap.size w y) : RowRes o w ex y := by subst h; exact ⟨u, he, hr, hb⟩
theorem fits_small {c : Cod} {u : Int} (h : c.fits u = true) : 0 ≤ u ∧ u.toNat < reachU c.h (c.b - 1) := by
  unfold Cod.fits at h
  obtain ⟨h1, h2⟩ := of_decide_eq_true h
  unfold Cod.reach at h2
  omega
set_option maxHeartbeats 8000000 in
set_option maxRecDepth 100000 in
theorem row_any (c : Cod) (hc : c.ok) (A : Option Addr) (cc : Nat) (l : List Int) (w : World) (hx : Ints w A cc l) (hI : ∀ v ∈ l, I64 v) (hl : l.length ≤ 10000000) :
    Calls Tryz.prog 77 #[c.val, .slice A l.length cc] w (RowRes (c.row 0 l) w) := by
  have HX := Lib.hid hx
  have HI := Lib.hid hI
  have HRt := Lib.hid (fun w => right_any c hc w)
  have HBd := Lib.hid (fun v hv w => bound_any c hc v hv w)
  have HRd := Lib.hid (fun v hv w => round_any c hc v hv w)
  have HPl := Lib.hid (fun v hv w => plain_any c hc v hv w)
  have HFt := Lib.hid (fun u w => fits_any c hc u w)
  have HPt := Lib.hid (fun u hu v l base w hr hl hb => bhput_any c hc u hu v l base w hr hl hb)
  have HC := Lib.hid hc
  clear hx hI hc
  unfold Cod.val at *
  go_enter Tryz.func77, Tryz.ntmps77
  go_wp2_with fail
  refine (HRt.out _).mono ?_
  rintro ex y ⟨rfl, hb1⟩
  have hbx : CBox y w.heap.size c := (hb1.block w.heap.size (by simp)).trans (heap_alloc_new w _)
  have d0 := (blk_facts hbx).1 0
  have d1 := (blk_facts hbx).1 1
  have d2 := (blk_facts hbx).1 2
  have d3 := (blk_facts hbx).1 3
  have hz := (Array.getElem?_eq_some_iff.1 hbx).1
  have HB := Lib.hid (Below.after' ((Below.refl w.heap.size w).alloc (Nat.le_refl _) _) hb1 (by simp))
  have HBX := Lib.hid hbx
  clear hb1 hbx
  go_wp2_with fail
  go_loopw [6, 7, 16] (fun x s t wr => ∃ (i : Nat) (last : Int) (L : List UInt8), i ≤ l.length ∧ t = .int .i64 i ∧ s = .int .i64 last ∧ -2147483648 ≤ last ∧ last < 4294967296 ∧ preB L (c.row last (l.drop i)) = c.row 0 l ∧ L.length ≤ 5 * i ∧ BRow wr w.heap.size 5 x L ∧ Below w.heap.size w wr ∧ CBox wr w.heap.size c) (fun _ _ t _ => l.length - (intOf t).toNat)
  case atStart => exact ⟨0, 0, [], Nat.zero_le _, rfl, rfl, by omega, by omega, by rw [List.drop_zero, preB_nil], by simp, BRow.nil _ _ _, HB.out, HBX.out⟩
  case round =>
    obtain ⟨i, last, L, hi, rfl, rfl, hl1, hl2, hL, hLl, hrow, hB, hbx⟩ := hrel
    have HL := Lib.hid hL
    have HR := Lib.hid hrow
    have HW := Lib.hid hB
    have HBX := Lib.hid hbx
    clear hL hB d0 d1 d2 d3 HB hz
    by_cases h1 : i < l.length
    · obtain ⟨g, o, v, rfl, hg, hvi, hct⟩ := (HX.out.grow HW.out).at_ h1
      have hv := HI.out v (List.mem_of_getElem? hvi)
      have hdr := Lib.hid (drop_atI hvi)
      have d0 := (blk_facts hbx).1 0
      have d1 := (blk_facts hbx).1 1
      have d2 := (blk_facts hbx).1 2
      have d3 := (blk_facts hbx).1 3
      have hz := (Array.getElem?_eq_some_iff.1 hbx).1
      clear hvi hbx hrow
      have p1 : decide ((i : Int) < (l.length : Int)) = true := decide_eq_true (by omega)
      go_wp2_with fail
      refine (HBd.out v hv _).mono ?_
      rintro ex y1 ⟨rfl, hb1⟩
      have HR1 := Lib.hid (HR.out.grow hb1)
      have HW1 := Lib.hid (Below.after' HW.out hb1 (Nat.le_refl _))
      have hbx1 := HBX.out.grow hb1
      have HBX1 := Lib.hid hbx1
      clear d0 d1 d2 d3 hz HR HW HBX hb1
      have d0 := (blk_facts hbx1).1 0
      have d1 := (blk_facts hbx1).1 1
      have d2 := (blk_facts hbx1).1 2
      have d3 := (blk_facts hbx1).1 3
      have hz := (Array.getElem?_eq_some_iff.1 hbx1).1
      clear hbx1
      cases hbd : boundI c.s v with
      | false =>
        have hfin := Lib.hid (HL.out.symm.trans (by rw [hdr.out, Cod.row_out c last v _ (by rw [hbd]; simp)]; try rfl))
        go_wp2_with fail
        go_ret2
        exact rowRes_none hfin.out rfl HW1.out
      | true =>
        have hvb := boundI_in hbd
        have HBD := Lib.hid hbd
        clear hbd
        go_wp2_with fail
        refine (HPl.out v hv _).mono ?_
        rintro ex y2 ⟨rfl, hb2⟩
        have HR2 := Lib.hid (HR1.out.grow hb2)
        have HW2 := Lib.hid (Below.after' HW1.out hb2 (Nat.le_refl _))
        have hbx2 := HBX1.out.grow hb2
        have HBX2 := Lib.hid hbx2
        clear d0 d1 d2 d3 hz HR1 HW1 HBX1 hb2
        have d0 := (blk_facts hbx2).1 0
        have d1 := (blk_facts hbx2).1 1
        have d2 := (blk_facts hbx2).1 2
        have d3 := (blk_facts hbx2).1 3
        have hz := (Array.getElem?_eq_some_iff.1 hbx2).1
        clear hbx2
        have hin := plainP_in (show c.s ≤ 2 from HC.out.2.2.2.2.1) v
        by_cases hd : c.d = 1
        · have q : ((c.d : Int) == 1) = true := by simp; omega
          have hvl : I64 (v - last) := by unfold I64; omega
          have hri := roundI_in c.s (v - last)
          have hrI : I64 (roundI c.s (v - last)) := by unfold I64; omega
          have hdf := Lib.hid (show plainP c.s (c.diff last v) = plainP c.s (roundI c.s (v - last)) by unfold Cod.diff; rw [if_pos hd])
          have HS1 := Lib.hid (fun w => HRd.out (v - last) hvl w)
          have HS2 := Lib.hid (fun w => HPl.out (roundI c.s (v - last)) hrI w)
          clear hd
          go_wp2_with fail
          refine wp_region_grow (by kernel_rfl) (by kernel_rfl) ?_
          repeat (go_big_quiet_step ((first | (go_at_call 99; with_reducible exact Gr.call (HS1.out _)) | (go_at_call 98; with_reducible exact Gr.call (HS2.out _)))))
          refine wpQuiet_nil ?_
          intro g1
          obtain ⟨w1, hb1⟩ := g1
          have HXD := Lib.hid hdf.out
          clear hdf HS1 HS2 hri hrI hvl
          dsimp only
          generalize plainP c.s (roundI c.s (v - last)) = X at *
          have HR3 := Lib.hid (HR2.out.grow hb1)
          have HW3 := Lib.hid (Below.after' HW2.out hb1 (Nat.le_refl _))
          have hbx3 := HBX2.out.grow hb1
          have HBX3 := Lib.hid hbx3
          clear d0 d1 d2 d3 hz HR2 HW2 HBX2 hb1 q hin
          have d0 := (blk_facts hbx3).1 0
          have d1 := (blk_facts hbx3).1 1
          have d2 := (blk_facts hbx3).1 2
          have d3 := (blk_facts hbx3).1 3
          have hz := (Array.getElem?_eq_some_iff.1 hbx3).1
          clear hbx3
          have hfe := plainP_fits c HC.out.2.2.2.2.1 (c.diff last v)
          have hdb := boundI_in (c.diff_bound (last := last) HBD.out)
          have hpe := plainP_eq (s := c.s) (v := c.diff last v) (by omega) (by omega)
          have hxd := HXD.out
          rw [hpe] at hfe hxd
          have HFX := Lib.hid (show c.fits (plainI c.s (c.diff last v)) = c.fits X from by rw [hxd])
          have HXD2 := Lib.hid hxd
          clear hfe hpe hdb HXD hxd
          go_wp2_with fail
          refine (HFt.out X _).mono ?_
          rintro ex y4 ⟨rfl, hb4⟩
          have HR4 := Lib.hid (HR3.out.grow hb4)
          have HW4 := Lib.hid (Below.after' HW3.out hb4 (Nat.le_refl _))
          have hbx4 := HBX3.out.grow hb4
          have HBX4 := Lib.hid hbx4
          clear d0 d1 d2 d3 hz HR3 HW3 HBX3 hb4
          have d0 := (blk_facts hbx4).1 0
          have d1 := (blk_facts hbx4).1 1
          have d2 := (blk_facts hbx4).1 2
          have d3 := (blk_facts hbx4).1 3
          have hz := (Array.getElem?_eq_some_iff.1 hbx4).1
          clear hbx4
          cases hf : c.fits X with
          | false =>
            have hfin := Lib.hid (HL.out.symm.trans (by rw [hdr.out, Cod.row_out c last v _ (by rw [HFX.out, hf]; simp)]; try rfl))
            go_wp2_with fail
            go_ret2
            exact rowRes_none hfin.out rfl HW4.out
          | true =>
            obtain ⟨f0, f1⟩ := fits_small hf
            obtain ⟨n, rfl⟩ : ∃ n : Nat, X = (n : Int) := ⟨X.toNat, by omega⟩
            have hL2 := Lib.hid (show preB (L ++ putU c.h (c.b - 1) n) (c.row v (l.drop (i + 1))) = c.row 0 l by
              rw [← HL.out, hdr.out, Cod.row_ok c last v _ HBD.out (by rw [HFX.out, hf]), HXD2.out, preB_pre]; rfl)
            have hpl := putU_le5 HC.out n
            have HP := Lib.hid (HPt.out n (by simpa using f1) _ L w.heap.size y4 HR4.out (by omega) HW4.out.size)
            have HO := Lib.hid (show ∀ (v' : Value) (y5 : World), Hop y4 y5 _ v'.ownBlock → CBox y5 w.heap.size c ∧ Below w.heap.size w y5 from fun v' y5 hp => ⟨box_hop HR4.out hp HBX4.out (by decide), HW4.out.trans (hop_base HR4.out hp (Nat.le_refl _) HW4.out.size)⟩)
            clear hf f0 f1
            go_wp2_with fail
            refine HP.out.mono ?_
            rintro ex y5 ⟨v', rfl, hr5, hp5⟩
            obtain ⟨hbx5, hw5⟩ := HO.out v' y5 hp5
            have HR5 := Lib.hid hr5
            have HBX5 := Lib.hid hbx5
            have HW5 := Lib.hid hw5
            clear hr5 hp5 hbx5 hw5 HP HO d0 d1 d2 d3 hz
            go_wp2_with fail
            go_roundw
            case rel => exact ⟨i + 1, v, _, by omega, by go_num, rfl, by omega, by omega, hL2.out, by simp only [List.length_append]; omega, HR5.out, HW5.out, HBX5.out⟩
            case measure => simp [intOf]; omega
        · have q : ((c.d : Int) == 1) = false := by simp; omega
          have HXD := Lib.hid (show plainP c.s (c.diff last v) = plainP c.s v by unfold Cod.diff; rw [if_neg hd])
          clear hd
          dsimp only
          generalize plainP c.s v = X at *
          have HR3 := HR2
          have HW3 := HW2
          have HBX3 := HBX2
          clear HR2 HW2 HBX2 hin
          have hfe := plainP_fits c HC.out.2.2.2.2.1 (c.diff last v)
          have hdb := boundI_in (c.diff_bound (last := last) HBD.out)
          have hpe := plainP_eq (s := c.s) (v := c.diff last v) (by omega) (by omega)
          have hxd := HXD.out
          rw [hpe] at hfe hxd
          have HFX := Lib.hid (show c.fits (plainI c.s (c.diff last v)) = c.fits X from by rw [hxd])
          have HXD2 := Lib.hid hxd
          clear hfe hpe hdb HXD hxd
          go_wp2_with fail
          refine (HFt.out X _).mono ?_
          rintro ex y4 ⟨rfl, hb4⟩
          have HR4 := Lib.hid (HR3.out.grow hb4)
          have HW4 := Lib.hid (Below.after' HW3.out hb4 (Nat.le_refl _))
          have hbx4 := HBX3.out.grow hb4
          have HBX4 := Lib.hid hbx4
          clear d0 d1 d2 d3 hz HR3 HW3 HBX3 hb4
          have d0 := (blk_facts hbx4).1 0
          have d1 := (blk_facts hbx4).1 1
          have d2 := (blk_facts hbx4).1 2
          have d3 := (blk_facts hbx4).1 3
          have hz := (Array.getElem?_eq_some_iff.1 hbx4).1
          clear hbx4
          cases hf : c.fits X with
          | false =>
            have hfin := Lib.hid (HL.out.symm.trans (by rw [hdr.out, Cod.row_out c last v _ (by rw [HFX.out, hf]; simp)]; try rfl))
            go_wp2_with fail
            go_ret2
            exact rowRes_none hfin.out rfl HW4.out
          | true =>
            obtain ⟨f0, f1⟩ := fits_small hf
            obtain ⟨n, rfl⟩ : ∃ n : Nat, X = (n : Int) := ⟨X.toNat, by omega⟩
            have hL2 := Lib.hid (show preB (L ++ putU c.h (c.b - 1) n) (c.row v (l.drop (i + 1))) = c.row 0 l by
              rw [← HL.out, hdr.out, Cod.row_ok c last v _ HBD.out (by rw [HFX.out, hf]), HXD2.out, preB_pre]; rfl)
            have hpl := putU_le5 HC.out n
            have HP := Lib.hid (HPt.out n (by simpa using f1) _ L w.heap.size y4 HR4.out (by omega) HW4.out.size)
            have HO := Lib.hid (show ∀ (v' : Value) (y5 : World), Hop y4 y5 _ v'.ownBlock → CBox y5 w.heap.size c ∧ Below w.heap.size w y5 from fun v' y5 hp => ⟨box_hop HR4.out hp HBX4.out (by decide), HW4.out.trans (hop_base HR4.out hp (Nat.le_refl _) HW4.out.size)⟩)
            clear hf f0 f1
            go_wp2_with fail
            refine HP.out.mono ?_
            rintro ex y5 ⟨v', rfl, hr5, hp5⟩
            obtain ⟨hbx5, hw5⟩ := HO.out v' y5 hp5
            have HR5 := Lib.hid hr5
            have HBX5 := Lib.hid hbx5
            have HW5 := Lib.hid hw5
            clear hr5 hp5 hbx5 hw5 HP HO d0 d1 d2 d3 hz
            go_wp2_with fail
            go_roundw
            case rel => exact ⟨i + 1, v, _, by omega, by go_num, rfl, by omega, by omega, hL2.out, by simp only [List.length_append]; omega, HR5.out, HW5.out, HBX5.out⟩
            case measure => simp [intOf]; omega
    · have hii : i = l.length := by omega
      subst hii
      obtain ⟨B, k, rfl, hrd⟩ := hrow.at_
      have p1 : decide ((l.length : Int) < (l.length : Int)) = false := decide_eq_false (by omega)
      have hfin := Lib.hid (HL.out.symm.trans (show preB L (c.row last (l.drop l.length)) = some (L ++ []) by rw [List.drop_length]; rfl))
      clear hrd hrow hbx
      go_wp2_with fail
      go_ret2
      exact rowRes_some hfin.out rfl (by rw [List.append_nil]; exact HR.out) HW.out
end Go.Proofs.YtkdamaomhppkgaaGreat

/- Layer 2's cursor: a box with bytes that it reads, its place, and its error. -/
namespace Go.Proofs.YtkdamaomhppkgaaGreat
open Go.RowKit

/-- A cursor at place n of bytes l. -/
structure CurS (x : World) (b : Nat) (A : Option Addr) (c : Nat) (l : List UInt8) (n : Nat) (e : Int) : Prop where
  box : x.heap[b]? = some (.cells #[.slice A l.length c, .int .i64 n, .int .i64 e] 79 (0, 0))
  row : BAt x A c l
  le : n ≤ l.length
  small : l.length ≤ 1000000
  shape : (A = none ∧ c = 0) ∨ ∃ g, A = some ⟨g, 0, none⟩
/-- The first error stays. -/
def fe (e e' : Int) : Int := if e = 0 then e' else e
section
variable {x y z : World} {b : Nat} {A : Option Addr} {c : Nat} {l : List UInt8} {n : Nat} {e : Int}
theorem CurS.lt (h : CurS x b A c l n e) : b < x.heap.size := (Array.getElem?_eq_some_iff.1 h.box).1
theorem CurS.grow (h : CurS x b A c l n e) (k : Below x.heap.size x y) : CurS y b A c l n e := ⟨(k.block b h.lt).trans h.box, h.row.grow k, h.le, h.small, h.shape⟩
theorem BAt.kept {x y : World} {A : Option Addr} {c : Nat} {l : List UInt8} (h : BAt x A c l) {o : Option Nat} (k : x.grownBy y o) (hne : ∀ g o', A = some ⟨g, o', none⟩ → 0 < l.length → some g ≠ o) : BAt y A c l :=
  ⟨h.1, fun hp => by
    obtain ⟨g, o, e, hg, hc⟩ := h.2 hp
    exact ⟨g, o, e, Nat.lt_of_lt_of_le hg k.size, fun j u hu => (World.cell?_of_block (k.block g hg (hne g o e hp))).trans (hc j u hu)⟩⟩
/-- A block that came behind turns. -/
theorem CurS.hop {m : Nat} {e0 : Int} (h0 : CurS x b A c l m e0) (h : CurS y b A c l n e) {o : Option Nat} (k : y.grownBy z o) (ho : ∀ g, o = some g → x.heap.size ≤ g) : CurS z b A c l n e :=
  ⟨(k.block b h.lt (fun e => by have := ho b e.symm; have := h0.lt; omega)).trans h.box, h.row.kept k (fun g o' e hp e2 => by
    obtain ⟨g', o'', e', hg, _⟩ := h0.row.2 hp
    rw [e'] at e
    cases e
    have := ho g e2.symm
    omega), h.le, h.small, h.shape⟩
/-- The bytes' block is not the box. -/
theorem CurS.apart (h : CurS x b A c l n e) {g o : Nat} (hA : A = some ⟨g, o, none⟩) (hp : 0 < l.length) : g ≠ b := by
  intro eg
  subst eg
  obtain ⟨g', o', e', hg, hc⟩ := h.row.2 hp
  rw [hA] at e'
  cases e'
  have h1 := hc 0 _ (List.getElem?_eq_getElem hp)
  rw [(blk_facts h.box).1] at h1
  have hi : o + 0 < 3 := by
    have := (Array.getElem?_eq_some_iff.1 h1).1
    simpa using this
  obtain h2 | h2 | h2 : o + 0 = 0 ∨ o + 0 = 1 ∨ o + 0 = 2 := by omega
  all_goals
    rw [h2] at h1
    simp at h1
theorem CurS.cb (h : CurS x b A c l n e) : x.cell? ⟨b, 0, none⟩ = some (.slice A l.length c) := (blk_facts h.box).1 0
theorem CurS.ca (h : CurS x b A c l n e) : x.cell? ⟨b, 1, none⟩ = some (.int .i64 n) := (blk_facts h.box).1 1
theorem CurS.ce (h : CurS x b A c l n e) : x.cell? ⟨b, 2, none⟩ = some (.int .i64 e) := (blk_facts h.box).1 2
theorem CurS.frozen (h : CurS x b A c l n e) (t : Nat) : x.frozen? ⟨b, t, none⟩ = false := (blk_facts h.box).2 t
theorem CurS.turned (h : CurS x b A c l n e) (t : Nat) (v : Value) : x.grownBy (x.setCell ⟨b, t, none⟩ v) (some b) := by
  rw [setCell_eq_setRow x b t _ 79 (0, 0) v h.box]
  exact ⟨rfl, rfl, rfl, by simp, fun k _ hne => setRow_other x b k _ (fun hh => hne (by rw [hh]))⟩
theorem CurS.setErr (h : CurS x b A c l n e) (e' : Int) : CurS (x.setCell ⟨b, 2, none⟩ (.int .i64 e')) b A c l n e' :=
  ⟨by simp [World.setCell, Array.getElem?_modify, h.box], h.row.kept (h.turned 2 _) (fun g o hA hp e => h.apart hA hp (Option.some.inj e)), h.le, h.small, h.shape⟩
theorem CurS.setAt (h : CurS x b A c l n e) {m : Nat} (hm : m ≤ l.length) : CurS (x.setCell ⟨b, 1, none⟩ (.int .i64 m)) b A c l m e :=
  ⟨by simp [World.setCell, Array.getElem?_modify, h.box], h.row.kept (h.turned 1 _) (fun g o hA hp e => h.apart hA hp (Option.some.inj e)), hm, h.small, h.shape⟩
/-- The bytes from a place on. -/
theorem CurS.part (h : CurS x b A c l n e) {k : Nat} (hk : n + k ≤ l.length) (hp : 0 < k) : ∃ g o, A = some ⟨g, o, none⟩ ∧ g < x.heap.size ∧ BAt x (some ⟨g, o + n, none⟩) (c - n) ((l.drop n).take k) := by
  obtain ⟨g, o, e, hg, hc⟩ := h.row.2 (by omega)
  have := h.row.1
  refine ⟨g, o, e, hg, ?_, fun _ => ⟨g, o + n, rfl, hg, fun j u hu => ?_⟩⟩
  · rw [List.length_take, List.length_drop]; omega
  · rw [List.getElem?_take] at hu
    split at hu
    · rw [List.getElem?_drop] at hu
      have := hc _ u hu
      rw [← Nat.add_assoc] at this
      exact this
    · cases hu
theorem cerr_any (h : CurS x b A c l n e) : Calls Tryz.prog 12 #[.pointer (some ⟨b, 0, none⟩)] x fun ex y => ex = .returned (.int .i64 e) ∧ y = x := by
  have c1 := h.ce
  have hz := h.lt
  clear h
  go_enter Tryz.func12, Tryz.ntmps12
  go_wp2
  go_ret
  exact ⟨rfl, rfl⟩
theorem cleft_any (h : CurS x b A c l n e) : Calls Tryz.prog 13 #[.pointer (some ⟨b, 0, none⟩)] x fun ex y => ex = .returned (.int .i64 ((l.length - n : Nat) : Int)) ∧ Below x.heap.size x y := by
  have c0 := h.cb
  have c1 := h.ca
  have hz := h.lt
  have hle := h.le
  have hs := h.small
  have hr := h.row.1
  have hb : ((l.length : Int) - (n : Int)) = ((l.length - n : Nat) : Int) := by omega
  clear h
  go_enter Tryz.func13, Tryz.ntmps13
  go_wp2
  go_region
  go_wp2
  go_ret
  exact ⟨by go_num, Below.refl _ _ |>.drew⟩
theorem cfail_any (e' : Int) (h : CurS x b A c l n e) : Calls Tryz.prog 58 #[.pointer (some ⟨b, 0, none⟩), .int .i64 e'] x fun ex y => ex = .returned (.tuple #[]) ∧ CurS y b A c l n (fe e e') ∧ x.grownBy y (some b) := by
  have H := Lib.hid h
  have c1 := h.ce
  have hz := h.lt
  have hf := h.frozen 2
  clear h
  unfold fe
  by_cases h0 : e = 0
  · rw [if_pos h0]
    subst h0
    go_enter Tryz.func58, Tryz.ntmps58
    go_wp2
    go_end0
    exact ⟨rfl, H.out.setErr e', H.out.turned 2 _⟩
  · rw [if_neg h0]
    have p0 : (e == 0) = false := by simpa using h0
    clear h0
    go_enter Tryz.func58, Tryz.ntmps58
    go_wp2
    go_end0
    exact ⟨rfl, H.out, World.grownBy.refl _ _⟩
end
end Go.Proofs.YtkdamaomhppkgaaGreat

/- The walks of layer 2's cursor: what it takes, and a number of one byte. -/
namespace Go.Proofs.YtkdamaomhppkgaaGreat
open Go.RowKit

section
variable {x : World} {b : Nat} {A : Option Addr} {c : Nat} {l : List UInt8} {n : Nat} {e : Int}
set_option maxRecDepth 100000 in
set_option maxHeartbeats 4000000 in
theorem cnext_ok (h : CurS x b A c l n 0) {k : Nat} (hk : n + k ≤ l.length) : Calls Tryz.prog 80 #[.pointer (some ⟨b, 0, none⟩), .int .i64 k, .bool true] x fun ex y => (∃ A' c', ex = .returned (.slice A' k c') ∧ BAt y A' c' ((l.drop n).take k) ∧ (A' = none → c' = 0)) ∧ CurS y b A c l (n + k) 0 ∧ x.grownBy y (some b) := by
  have HE := Lib.hid (cerr_any h)
  have HL := Lib.hid (cleft_any h)
  have H := Lib.hid h
  have hs := h.small
  have p1 : decide ((k : Int) < 0) = false := decide_eq_false (by omega)
  have p2 : decide (l.length - n < k) = false := decide_eq_false (by omega)
  have p3 : (n : Int) ≤ 1000000 := by omega
  have p4 : (k : Int) ≤ 1000000 := by omega
  clear h
  go_enter Tryz.func80, Tryz.ntmps80
  go_wp2_with fail
  refine HE.out.mono ?_
  rintro ex y ⟨rfl, ey⟩
  have ey := ey.symm
  subst ey
  go_wp2_with fail
  refine HL.out.mono ?_
  rintro ex y ⟨rfl, hb⟩
  have h1 := H.out.grow hb
  have H1 := Lib.hid h1
  have HB := Lib.hid hb
  have c1 := h1.ca
  have f1 := h1.frozen 1
  have hz := h1.lt
  have h2 := h1.setAt hk
  have e1 := Lib.hid (show ((n + k : Nat) : Int) = (n : Int) + (k : Int) from by omega)
  rw [e1.out] at h2
  have H2 := Lib.hid h2
  have d0 := h2.cb
  have d1 := h2.ca
  rw [e1.out] at d1
  have hz2 := h2.lt
  have hr := h2.row.1
  have G := Lib.hid (h1.turned 1 (.int .i64 ((n : Int) + (k : Int))))
  clear h1 hb HE HL h2
  have G2 := Lib.hid (show CurS (y.setCell ⟨b, 1, none⟩ (.int .i64 ((n : Int) + (k : Int)))).drew b A c l (n + k) 0 ∧ x.grownBy (y.setCell ⟨b, 1, none⟩ (.int .i64 ((n : Int) + (k : Int)))).drew (some b) from
    ⟨H2.out.grow (Below.refl _ _).drew, grownBy_trans (grownBy_below HB.out _) (grownBy_trans G.out (grownBy_below (Below.refl _ _).drew none) (.inr fun g e => by cases e)) (.inl rfl)⟩)
  rcases H.out.shape with ⟨rfl, rfl⟩ | ⟨g, rfl⟩
  · obtain rfl : l = [] := List.eq_nil_of_length_eq_zero (Nat.le_zero.1 hr)
    have hk0 : k = 0 := by have : ([] : List UInt8).length = 0 := rfl; omega
    have hn0 : n = 0 := by have : ([] : List UInt8).length = 0 := rfl; omega
    subst hk0
    subst hn0
    rw [show (((0 : Nat) : Int) + ((0 : Nat) : Int)) = 0 from rfl] at d0 d1 hz2
    go_wp2_with fail
    go_region
    go_wp2_with fail
    go_ret
    exact ⟨⟨_, _, rfl, BAt.nil _ _ _, fun _ => rfl⟩, G2.out⟩
  · have hn9 := H.out.le
    by_cases hcn : c = n
    · obtain rfl : k = 0 := by omega
      subst hcn
      rw [show (c : Int) + ((0 : Nat) : Int) = (c : Int) from Int.add_zero _] at d0 d1 hz2
      go_wp2_with fail
      go_region
      go_wp2_with fail
      go_ret
      exact ⟨⟨_, _, rfl, BAt.nil _ _ _, fun e => by cases e⟩, G2.out⟩
    · have hp : BAt (y.setCell ⟨b, 1, none⟩ (.int .i64 ((n : Int) + (k : Int)))).drew (some ⟨g, n, none⟩) (c - n) ((l.drop n).take k) := by
        by_cases hk0 : k = 0
        · subst hk0
          exact BAt.nil _ _ _
        · obtain ⟨g', o', e', hg, hB⟩ := (H.out.grow HB.out).part hk (by omega)
          cases e'
          rw [Nat.zero_add] at hB
          exact (hB.kept G.out (fun g o e hp e2 => by
            cases e
            exact H.out.apart rfl (by omega) (Option.some.inj e2))).grow (Below.refl _ _).drew
      have HP := Lib.hid hp
      have q1 : ¬ (c - n = 0) := by omega
      have q2 : ¬ (c ≤ n) := by omega
      clear hp
      go_wp2_with fail
      go_region
      go_wp2_with fail
      go_ret
      exact ⟨⟨some ⟨g, n, none⟩, c - n, by rw [Nat.add_sub_cancel_left]; rfl, HP.out, fun e => by cases e⟩, G2.out⟩
/-- Nothing is read behind an error. -/
theorem cnext_bad (h : CurS x b A c l n e) (h0 : e ≠ 0) (k : Int) (sz : Bool) : Calls Tryz.prog 80 #[.pointer (some ⟨b, 0, none⟩), .int .i64 k, .bool sz] x fun ex y => ex = .returned (.slice none 0 0) ∧ y = x := by
  have HE := Lib.hid (cerr_any h)
  have p0 : (e == 0) = false := by simpa using h0
  clear h h0
  go_enter Tryz.func80, Tryz.ntmps80
  go_wp2_with fail
  refine HE.out.mono ?_
  rintro ex y ⟨rfl, ey⟩
  have ey := ey.symm
  subst ey
  go_wp2_with fail
  go_ret
  exact ⟨rfl, rfl⟩
theorem cnext_arg (h : CurS x b A c l n 0) {k : Int} (hk : k < 0) : Calls Tryz.prog 80 #[.pointer (some ⟨b, 0, none⟩), .int .i64 k, .bool true] x fun ex y => ex = .returned (.slice none 0 0) ∧ CurS y b A c l n 1 ∧ x.grownBy y (some b) := by
  have HE := Lib.hid (cerr_any h)
  have HF := Lib.hid (cfail_any 1 h)
  have p1 : decide (k < 0) = true := decide_eq_true hk
  clear h hk
  go_enter Tryz.func80, Tryz.ntmps80
  go_wp2_with fail
  refine HE.out.mono ?_
  rintro ex y ⟨rfl, ey⟩
  have ey := ey.symm
  subst ey
  go_wp2_with fail
  refine HF.out.mono ?_
  rintro ex y ⟨rfl, h1, hg⟩
  have H1 := Lib.hid h1
  have G1 := Lib.hid hg
  clear h1 hg
  go_wp2_with fail
  go_ret
  exact ⟨rfl, H1.out, G1.out⟩
theorem cnext_end (h : CurS x b A c l n 0) {k : Nat} (hk : l.length - n < k) : Calls Tryz.prog 80 #[.pointer (some ⟨b, 0, none⟩), .int .i64 k, .bool true] x fun ex y => ex = .returned (.slice none 0 0) ∧ CurS y b A c l n 6 ∧ x.grownBy y (some b) := by
  have HE := Lib.hid (cerr_any h)
  have HL := Lib.hid (cleft_any h)
  have H := Lib.hid h
  have p1 : decide ((k : Int) < 0) = false := decide_eq_false (by omega)
  have p2 : decide (l.length - n < k) = true := decide_eq_true hk
  clear h hk
  go_enter Tryz.func80, Tryz.ntmps80
  go_wp2_with fail
  refine HE.out.mono ?_
  rintro ex y ⟨rfl, ey⟩
  have ey := ey.symm
  subst ey
  go_wp2_with fail
  refine HL.out.mono ?_
  rintro ex y ⟨rfl, hb⟩
  have HF := Lib.hid (cfail_any 6 (H.out.grow hb))
  have HB := Lib.hid hb
  clear hb
  go_wp2_with fail
  refine HF.out.mono ?_
  rintro ex y2 ⟨rfl, h1, hg⟩
  have H1 := Lib.hid h1
  have G1 := Lib.hid hg
  clear h1 hg
  go_wp2_with fail
  go_ret
  exact ⟨rfl, H1.out, grownBy_trans (grownBy_below HB.out _) G1.out (.inl rfl)⟩
end
end Go.Proofs.YtkdamaomhppkgaaGreat

/- The walks of layer 2's cursor: a number of one byte. -/
namespace Go.Proofs.YtkdamaomhppkgaaGreat
open Go.RowKit

theorem or_zero (u : UInt8) : bits .or .u64 0 (u.toNat : Int) = (u.toNat : Int) := by
  have hu := u.toNat_lt
  have := bits_join .u64 62 (by decide) (fun n h0 h1 => by rw [IntKind.wrap_u64]; omega) 8 0 (u.toNat : Int) (by decide) (by decide) (by decide) (by omega) (by omega) (by omega)
  rw [this]
  omega
section
variable {x : World} {b : Nat} {A : Option Addr} {c : Nat} {l : List UInt8} {n : Nat} {e : Int}
/-- No number behind an error. -/
theorem cbig_bad (h : CurS x b A c l n e) (h0 : e ≠ 0) : Calls Tryz.prog 60 #[.pointer (some ⟨b, 0, none⟩), .int .i64 1] x fun ex y => ex = .returned (.int .u64 0) ∧ y = x := by
  have HZ := Lib.hid (sized_any 1 x (.inl rfl))
  have HN := Lib.hid (cnext_bad h h0 1 true)
  clear h h0
  go_enter Tryz.func60, Tryz.ntmps60
  go_wp2_with fail
  refine HZ.out.mono ?_
  rintro ex y ⟨rfl, ey⟩
  have ey := ey.symm
  subst ey
  go_wp2_with fail
  refine HN.out.mono ?_
  rintro ex y ⟨rfl, ey⟩
  have ey := ey.symm
  subst ey
  go_wp2_with fail
  go_loopw [5, 14] (fun u t wr => u = .int .u64 0 ∧ t = .int .i64 0 ∧ wr = x) (fun _ _ _ => 0)
  case atStart => exact ⟨rfl, rfl, rfl⟩
  case round =>
    obtain ⟨rfl, rfl, rfl⟩ := hrel
    go_wp2_with fail
    go_ret
    exact ⟨rfl, rfl⟩
theorem cbig_end (h : CurS x b A c l n 0) (hn : n = l.length) : Calls Tryz.prog 60 #[.pointer (some ⟨b, 0, none⟩), .int .i64 1] x fun ex y => ex = .returned (.int .u64 0) ∧ CurS y b A c l n 6 ∧ x.grownBy y (some b) := by
  have HZ := Lib.hid (sized_any 1 x (.inl rfl))
  have HN := Lib.hid (cnext_end h (k := 1) (by omega))
  clear h hn
  go_enter Tryz.func60, Tryz.ntmps60
  go_wp2_with fail
  refine HZ.out.mono ?_
  rintro ex y ⟨rfl, ey⟩
  have ey := ey.symm
  subst ey
  go_wp2_with fail
  refine HN.out.mono ?_
  rintro ex y ⟨rfl, h1, hg⟩
  have H1 := Lib.hid h1
  have G1 := Lib.hid hg
  clear h1 hg
  go_wp2_with fail
  go_loopw [5, 14] (fun u t wr => u = .int .u64 0 ∧ t = .int .i64 0 ∧ wr = y) (fun _ _ _ => 0)
  case atStart => exact ⟨rfl, rfl, rfl⟩
  case round =>
    obtain ⟨rfl, rfl, rfl⟩ := hrel
    go_wp2_with fail
    go_ret
    exact ⟨rfl, H1.out, G1.out⟩
theorem cbig_ok (h : CurS x b A c l n 0) {u : UInt8} (hu : l[n]? = some u) : Calls Tryz.prog 60 #[.pointer (some ⟨b, 0, none⟩), .int .i64 1] x fun ex y => ex = .returned (.int .u64 (u.toNat : Int)) ∧ CurS y b A c l (n + 1) 0 ∧ x.grownBy y (some b) := by
  have hl : n < l.length := (List.getElem?_eq_some_iff.1 hu).1
  have HZ := Lib.hid (sized_any 1 x (.inl rfl))
  have HN := Lib.hid (cnext_ok h (k := 1) (by omega))
  have hd : (l.drop n).take 1 = [u] := by
    rw [List.drop_eq_getElem_cons hl]
    have : l[n] = u := (List.getElem?_eq_some_iff.1 hu).2
    rw [this]
    rfl
  have hub := u.toNat_lt
  clear h
  go_enter Tryz.func60, Tryz.ntmps60
  go_wp2_with fail
  refine HZ.out.mono ?_
  rintro ex y ⟨rfl, ey⟩
  have ey := ey.symm
  subst ey
  go_wp2_with fail
  refine HN.out.mono ?_
  rintro ex y ⟨⟨A', c', rfl, hB, _⟩, h1, hg⟩
  rw [hd] at hB
  obtain ⟨g, o, rfl, hg2, hc⟩ := hB.2 (by simp)
  have c0 := hc 0 u rfl
  rw [Nat.add_zero] at c0
  have hb1 : (1 : Nat) ≤ c' := hB.1
  have H1 := Lib.hid h1
  have G1 := Lib.hid hg
  clear h1 hg hB hc
  go_wp2_with fail
  go_loopw [5, 14] (fun v t wr => ((v = .int .u64 0 ∧ t = .int .i64 0) ∨ (v = .int .u64 (u.toNat : Int) ∧ t = .int .i64 1)) ∧ wr = y) (fun _ t _ => (1 - intOf t).toNat)
  case atStart => exact ⟨.inl ⟨rfl, rfl⟩, rfl⟩
  case round =>
    obtain ⟨⟨rfl, rfl⟩ | ⟨rfl, rfl⟩, rfl⟩ := hrel
    · go_wp2_with fail
      go_roundw
      case rel => exact ⟨.inr ⟨by rw [or_zero u], rfl⟩, trivial⟩
      case measure => decide
    · go_wp2_with fail
      go_ret
      exact ⟨rfl, H1.out, G1.out⟩
end
end Go.Proofs.YtkdamaomhppkgaaGreat

/- The walk of layer 24: a number that is read. -/
namespace Go.Proofs.YtkdamaomhppkgaaGreat
open Go.RowKit

/-- What reading comes to: what is told and what is left, or an error and none. -/
def Outc {α : Type} (o : Except Int (α × List UInt8)) (d v : α) (e : Int) (r : List UInt8) : Prop :=
  match o with
  | .ok p => e = 0 ∧ v = p.1 ∧ r = p.2
  | .error e' => e = e' ∧ e' ≠ 0 ∧ v = d
theorem outc_ok {α : Type} {o : Except Int (α × List UInt8)} {d v : α} {r : List UInt8} (h : o = .ok (v, r)) : Outc o d v 0 r := by subst h; exact ⟨rfl, rfl, rfl⟩
theorem outc_error {α : Type} {o : Except Int (α × List UInt8)} {d : α} {e : Int} {r : List UInt8} (h : o = .error e) (he : e ≠ 0) : Outc o d d e r := by subst h; exact ⟨rfl, he, rfl⟩
theorem getU_nil (h k : Nat) : getU h k [] = none := by cases k <;> rfl
theorem getU_last (h : Nat) (x : UInt8) (l : List UInt8) : getU h 0 (x :: l) = some (x.toNat, l) := rfl
theorem getU_stop {h k : Nat} {x : UInt8} (l : List UInt8) (hx : x.toNat < 256 - h) : getU h k (x :: l) = some (x.toNat, l) := by
  cases k with
  | zero => rfl
  | succ k => simp only [getU]; rw [if_pos hx]
theorem getU_on {h k : Nat} {x : UInt8} (l : List UInt8) (hx : ¬ x.toNat < 256 - h) : getU h (k + 1) (x :: l) = (getU h k l).map fun p => (x.toNat + h * p.1, p.2) := by
  simp only [getU]; rw [if_neg hx]
/-- The plain number, of what was reckoned and what is left to read. -/
def onU (u W : Nat) : Option (Nat × List UInt8) → Option (Nat × List UInt8) := Option.map fun p => (u + p.1 * W, p.2)
theorem onU_stop (u W : Nat) (x : Nat) (l : List UInt8) : onU u W (some (x, l)) = some (u + x * W, l) := rfl
theorem onU_on (u W h : Nat) (x : Nat) (o : Option (Nat × List UInt8)) : onU u W (o.map fun p => (x + h * p.1, p.2)) = onU (u + x * W) (W * h) o := by
  cases o with
  | none => rfl
  | some p =>
    unfold onU
    simp only [Option.map_some, Option.some.injEq, Prod.mk.injEq, and_true]
    rw [Nat.add_mul, Nat.mul_comm h p.1, Nat.mul_assoc, Nat.mul_comm h W]
    omega
theorem Cod.get_none {c : Cod} {l : List UInt8} (h : getU c.h (c.b - 1) l = none) : c.get l = .error 6 := by unfold Cod.get; rw [h]
theorem Cod.get_far {c : Cod} {l r : List UInt8} {u : Nat} (h : getU c.h (c.b - 1) l = some (u, r)) (hu : 4294967296 ≤ u) : c.get l = .error 5 := by unfold Cod.get; rw [h]; dsimp only; rw [if_pos hu]
theorem Cod.get_ok {c : Cod} {l r : List UInt8} {u : Nat} (h : getU c.h (c.b - 1) l = some (u, r)) (hu : ¬ 4294967296 ≤ u) : c.get l = .ok (numI c.s u, r) := by unfold Cod.get; rw [h]; dsimp only; rw [if_neg hu]
theorem CBox.kept {w w1 : World} {g : Nat} {c : Cod} {o : Option Nat} (h : CBox w g c) (k : w.grownBy w1 o) (hne : some g ≠ o) : CBox w1 g c := (k.block g (Array.getElem?_eq_some_iff.1 h).1 hne).trans h
section
variable {x : World} {b : Nat} {A : Option Addr} {cc : Nat} {l : List UInt8} {n : Nat}
set_option maxHeartbeats 8000000 in
set_option maxRecDepth 100000 in
theorem get_any (c : Cod) (hc : c.ok) (h : CurS x b A cc l n 0) :
    Calls Tryz.prog 109 #[.pointer (some ⟨b, 0, none⟩), c.val] x fun ex y => ∃ (v : Int) (m : Nat) (e : Int), ex = .returned (.int .i64 v) ∧ CurS y b A cc l m e ∧ Outc (c.get (l.drop n)) 0 v e (l.drop m) ∧ x.grownBy y (some b) := by
  have H0 := Lib.hid h
  have hbl := h.lt
  have HRt := Lib.hid (fun w => right_any c hc w)
  have HNm := Lib.hid (fun u h0 h1 w => bhnumber_any c hc u h0 h1 w)
  have hh := ok_h hc
  have hb := ok_b hc
  have hN := Lib.hid (fun h => Cod.get_none (c := c) (l := l.drop n) h)
  have hF := Lib.hid (fun u r h => Cod.get_far (c := c) (l := l.drop n) (r := r) (u := u) h)
  have hO := Lib.hid (fun u r h => Cod.get_ok (c := c) (l := l.drop n) (r := r) (u := u) h)
  unfold Cod.val at *
  clear h
  go_enter Tryz.func109, Tryz.ntmps109
  go_wp2_with fail
  refine (HRt.out _).mono ?_
  rintro ex y ⟨rfl, hb1⟩
  have hbx : CBox y x.heap.size c := (hb1.block x.heap.size (by simp)).trans (heap_alloc_new x _)
  have hx1 := Below.after' ((Below.refl x.heap.size x).alloc (Nat.le_refl _) _) hb1 (by simp)
  have HC := Lib.hid (H0.out.grow hx1)
  have HG := Lib.hid (grownBy_below hx1 (some b))
  have d0 := (blk_facts hbx).1 0
  have d1 := (blk_facts hbx).1 1
  have d2 := (blk_facts hbx).1 2
  have d3 := (blk_facts hbx).1 3
  have hz := (Array.getElem?_eq_some_iff.1 hbx).1
  have HBX := Lib.hid hbx
  clear hb1 hbx hx1
  go_wp2_with fail
  go_loopw [5, 6, 7] (fun s t i wr => ∃ (k u W : Nat), i = .int .i64 (k + 1 : Nat) ∧ s = .int .i64 u ∧ t = .int .i64 W ∧ u ≤ 256 ^ k ∧ W ≤ 256 ^ k ∧ x.grownBy wr (some b) ∧ CBox wr x.heap.size c ∧
    ((k < c.b ∧ CurS wr b A cc l (n + k) 0 ∧ onU u W (getU c.h (c.b - 1 - k) (l.drop (n + k))) = getU c.h (c.b - 1) (l.drop n)) ∨
     (k ≤ c.b ∧ (∃ m, CurS wr b A cc l m 6) ∧ getU c.h (c.b - 1) (l.drop n) = none) ∨
     (k = c.b ∧ CurS wr b A cc l (n + k) 0 ∧ getU c.h (c.b - 1) (l.drop n) = some (u, l.drop (n + k))))) (fun _ _ i _ => c.b + 2 - (intOf i).toNat)
  case atStart => exact ⟨0, 0, 1, rfl, rfl, rfl, by decide, by decide, HG.out, HBX.out, .inl ⟨by omega, HC.out, by
    rw [Nat.sub_zero, Nat.add_zero]
    cases getU c.h (c.b - 1) (l.drop n) with
    | none => rfl
    | some p => simp [onU]⟩⟩
  case round =>
    clear d0 d1 d2 d3 hz HC HG HBX
    obtain ⟨k, u, W, rfl, rfl, rfl, hu, hW, hg, hbx, hst⟩ := hrel
    have HGR := Lib.hid hg
    have HBX := Lib.hid hbx
    have d0 := (blk_facts hbx).1 0
    have d1 := (blk_facts hbx).1 1
    have d2 := (blk_facts hbx).1 2
    have d3 := (blk_facts hbx).1 3
    have hz := (Array.getElem?_eq_some_iff.1 hbx).1
    clear hg hbx
    rcases hst with ⟨hk, hc0, hst⟩ | ⟨hk, ⟨m, hc6⟩, hst⟩ | ⟨hk, hc0, hst⟩
    · have hp5 : 256 ^ k ≤ 4294967296 := Nat.le_trans (Nat.pow_le_pow_right (by decide) (by omega : k ≤ 4)) (by decide)
      have HE := Lib.hid (cerr_any hc0)
      have HST := Lib.hid hst
      have HC0 := Lib.hid hc0
      have p1 : decide (((k + 1 : Nat) : Int) ≤ (c.b : Int)) = true := decide_eq_true (by omega)
      clear hst
      by_cases hend : n + k < l.length
      · obtain ⟨a, ha⟩ : ∃ a, l[n + k]? = some a := ⟨_, List.getElem?_eq_getElem hend⟩
        have HBg := Lib.hid (cbig_ok hc0 ha)
        have hdr := Lib.hid (drop_atI ha)
        have hab := a.toNat_lt
        clear hc0 ha
        go_wp2_with fail
        refine HE.out.mono ?_
        rintro ex z ⟨rfl, ez⟩
        have ez := ez.symm
        subst ez
        go_wp2_with fail
        refine HBg.out.mono ?_
        rintro ex z ⟨rfl, hc1, hg1⟩
        have HC1 := Lib.hid hc1
        have HG1 := Lib.hid (grownBy_trans HGR.out hg1 (.inl rfl))
        have hbx1 := HBX.out.kept hg1 (by intro e; injection e with e; omega)
        have HBX1 := Lib.hid hbx1
        clear d0 d1 d2 d3 hz hc1 hg1 HGR HBX HC0 HE HBg
        have d0 := (blk_facts hbx1).1 0
        have d1 := (blk_facts hbx1).1 1
        have d2 := (blk_facts hbx1).1 2
        have d3 := (blk_facts hbx1).1 3
        have hz := (Array.getElem?_eq_some_iff.1 hbx1).1
        clear hbx1
        have n1 : a.toNat * W ≤ 255 * 256 ^ k := Nat.mul_le_mul (by omega) hW
        have n2 : W * c.h ≤ 256 ^ k * 256 := Nat.mul_le_mul hW hh.2
        have HU1 := Lib.hid (show u + a.toNat * W ≤ 256 ^ (k + 1) by rw [Nat.pow_succ]; omega)
        have HW1 := Lib.hid (show W * c.h ≤ 256 ^ (k + 1) by rw [Nat.pow_succ]; exact n2)
        have m0 : ((a.toNat * W : Nat) : Int) = (a.toNat : Int) * (W : Int) := Int.natCast_mul _ _
        have m1 : ((W * c.h : Nat) : Int) = (W : Int) * (c.h : Int) := Int.natCast_mul _ _
        have m2 : 0 ≤ (a.toNat : Int) * (W : Int) ∧ (a.toNat : Int) * (W : Int) ≤ 1099511627776 := by omega
        have m3 : 0 ≤ (W : Int) * (c.h : Int) ∧ (W : Int) * (c.h : Int) ≤ 1099511627776 := by omega
        have M0 := Lib.hid m0
        have M1 := Lib.hid m1
        have M4 := Lib.hid (show u ≤ 4294967296 by omega)
        clear n1 n2 hu hW hp5
        by_cases hst : a.toNat < 256 - c.h
        · have p2 : decide ((a.toNat : Int) < 256 - (c.h : Int)) = true := decide_eq_true (by omega)
          have hgu := Lib.hid (show getU c.h (c.b - 1) (l.drop n) = some (u + a.toNat * W, l.drop (n + k + 1)) by
            rw [← HST.out, hdr.out, getU_stop _ hst]; rfl)
          have hu4 := M4.out
          clear hst HST
          by_cases hbig : 4294967296 ≤ (u + a.toNat * W)
          · have p9 : decide ((4294967296 : Int) ≤ ((u : Int) + (a.toNat : Int) * (W : Int))) = true := decide_eq_true (by omega)
            have HFl := Lib.hid (cfail_any 5 HC1.out)
            have hfin := Lib.hid (hF.out _ _ hgu.out hbig)
            clear hbig m0 m1
            go_wp2_with fail
            refine HFl.out.mono ?_
            rintro ex z ⟨rfl, hc9, hg9⟩
            have HE9 := Lib.hid (cerr_any hc9)
            have HC9 := Lib.hid hc9
            have HG9 := Lib.hid (grownBy_trans HG1.out hg9 (.inl rfl))
            have e9 : fe 0 5 = 5 := rfl
            rw [e9] at HC9 HE9
            clear hc9 hg9 e9 HFl
            go_wp2_with fail
            refine HE9.out.mono ?_
            rintro ex z2 ⟨rfl, ez⟩
            have ez := ez.symm
            subst ez
            go_wp2_with fail
            go_ret
            exact ⟨0, _, 5, rfl, HC9.out, outc_error hfin.out (by decide), HG9.out⟩
          · have p9 : decide ((4294967296 : Int) ≤ ((u : Int) + (a.toNat : Int) * (W : Int))) = false := decide_eq_false (by omega)
            have HE9 := Lib.hid (cerr_any HC1.out)
            have hfin := Lib.hid (hO.out _ _ hgu.out hbig)
            have HN9 := Lib.hid (fun w => HNm.out ((u : Int) + (a.toNat : Int) * (W : Int)) (by omega) (by omega) w)
            have hcast := Lib.hid (show ((u : Int) + (a.toNat : Int) * (W : Int)) = (((u + a.toNat * W) : Nat) : Int) by omega)
            clear hbig m0 m1
            go_wp2_with fail
            refine HE9.out.mono ?_
            rintro ex z2 ⟨rfl, ez⟩
            have ez := ez.symm
            subst ez
            go_wp2_with fail
            refine (HN9.out _).mono ?_
            rintro ex z2 ⟨rfl, hb9⟩
            have HB9 := Lib.hid hb9
            clear hb9
            go_wp2_with fail
            go_ret
            exact ⟨_, _, 0, rfl, HC1.out.grow HB9.out, by first | exact outc_ok hfin.out | (rw [hcast.out]; exact outc_ok hfin.out), grownBy_trans HG1.out (grownBy_below HB9.out none) (.inr fun g e => by cases e)⟩
        · have p2 : decide ((a.toNat : Int) < 256 - (c.h : Int)) = false := decide_eq_false (by omega)
          have hu4 := M4.out
          have hlast := Lib.hid (show (k + 1 < c.b ∧ onU (u + a.toNat * W) (W * c.h) (getU c.h (c.b - 1 - (k + 1)) (l.drop (n + k + 1))) = getU c.h (c.b - 1) (l.drop n)) ∨ (k + 1 = c.b ∧ getU c.h (c.b - 1) (l.drop n) = some (u + a.toNat * W, l.drop (n + k + 1))) by
            by_cases hkb : k + 1 < c.b
            · refine .inl ⟨hkb, ?_⟩
              rw [← HST.out, hdr.out, show c.b - 1 - k = (c.b - 1 - (k + 1)) + 1 from by omega, getU_on _ hst, onU_on]
            · refine .inr ⟨by omega, ?_⟩
              rw [← HST.out, hdr.out, show c.b - 1 - k = 0 from by omega, getU_last]; rfl)
          clear hst HST m0 m1
          go_wp2_with fail
          go_roundw
          case rel => exact ⟨k + 1, u + a.toNat * W, W * c.h, by go_num, by rw [Int.natCast_add, M0.out], by rw [M1.out], HU1.out, HW1.out, HG1.out, HBX1.out, by
            rcases hlast.out with ⟨q1, q2⟩ | ⟨q1, q2⟩
            · exact .inl ⟨q1, HC1.out, q2⟩
            · exact .inr (.inr ⟨q1, HC1.out, q2⟩)⟩
          case measure => simp [intOf]; omega
      · have hnl : n + k = l.length := by have := hc0.le; omega
        have HBg := Lib.hid (cbig_end hc0 hnl)
        have hgu := Lib.hid (show getU c.h (c.b - 1) (l.drop n) = none by
          rw [← HST.out, List.drop_of_length_le (by omega), getU_nil]; rfl)
        clear hc0
        go_wp2_with fail
        refine HE.out.mono ?_
        rintro ex z ⟨rfl, ez⟩
        have ez := ez.symm
        subst ez
        go_wp2_with fail
        refine HBg.out.mono ?_
        rintro ex z ⟨rfl, hc1, hg1⟩
        have HC1 := Lib.hid hc1
        have HG1 := Lib.hid (grownBy_trans HGR.out hg1 (.inl rfl))
        have hbx1 := HBX.out.kept hg1 (by intro e; injection e with e; omega)
        have HBX1 := Lib.hid hbx1
        clear d0 d1 d2 d3 hz hc1 hg1 HGR HBX HC0 HE HBg HST
        have d0 := (blk_facts hbx1).1 0
        have d1 := (blk_facts hbx1).1 1
        have d2 := (blk_facts hbx1).1 2
        have d3 := (blk_facts hbx1).1 3
        have hz := (Array.getElem?_eq_some_iff.1 hbx1).1
        clear hbx1
        have n2 : W * c.h ≤ 256 ^ k * 256 := Nat.mul_le_mul hW hh.2
        have HW1 := Lib.hid (show W * c.h ≤ 256 ^ (k + 1) by rw [Nat.pow_succ]; exact n2)
        have HU1 := Lib.hid (show u ≤ 256 ^ (k + 1) by rw [Nat.pow_succ]; omega)
        have m1 : ((W * c.h : Nat) : Int) = (W : Int) * (c.h : Int) := Int.natCast_mul _ _
        have m3 : 0 ≤ (W : Int) * (c.h : Int) ∧ (W : Int) * (c.h : Int) ≤ 1099511627776 := by omega
        have M1 := Lib.hid m1
        have M4 : u ≤ 4294967296 := by omega
        clear n2 hu hW hp5
        by_cases hst : c.h < 256
        · have p2 : decide ((0 : Int) < 256 - (c.h : Int)) = true := decide_eq_true (by omega)
          have p3 : decide (c.h < 256) = true := decide_eq_true hst
          have p4 : decide ((c.h : Int) < 256) = true := decide_eq_true (by omega)
          clear hst
          by_cases hbig : 4294967296 ≤ u
          · have p9 : decide ((4294967296 : Int) ≤ (u : Int)) = true := decide_eq_true (by omega)
            have HFl := Lib.hid (cfail_any 5 HC1.out)
            clear hbig m1
            go_wp2_with fail
            refine HFl.out.mono ?_
            rintro ex z ⟨rfl, hc9, hg9⟩
            have HE9 := Lib.hid (cerr_any hc9)
            have HC9 := Lib.hid hc9
            have HG9 := Lib.hid (grownBy_trans HG1.out hg9 (.inl rfl))
            have e9 : fe 6 5 = 6 := rfl
            rw [e9] at HC9 HE9
            clear hc9 hg9 e9 HFl
            go_wp2_with fail
            refine HE9.out.mono ?_
            rintro ex z2 ⟨rfl, ez⟩
            have ez := ez.symm
            subst ez
            go_wp2_with fail
            go_ret
            exact ⟨0, _, 6, rfl, HC9.out, outc_error (hN.out hgu.out) (by decide), HG9.out⟩
          · have p9 : decide ((4294967296 : Int) ≤ (u : Int)) = false := decide_eq_false (by omega)
            have HE9 := Lib.hid (cerr_any HC1.out)
            clear hbig m1
            go_wp2_with fail
            refine HE9.out.mono ?_
            rintro ex z2 ⟨rfl, ez⟩
            have ez := ez.symm
            subst ez
            go_wp2_with fail
            go_ret
            exact ⟨0, _, 6, rfl, HC1.out, outc_error (hN.out hgu.out) (by decide), HG1.out⟩
        · have p2 : decide ((0 : Int) < 256 - (c.h : Int)) = false := decide_eq_false (by omega)
          have p3 : decide (c.h < 256) = false := decide_eq_false hst
          have p4 : decide ((c.h : Int) < 256) = false := decide_eq_false (by omega)
          clear hst m1
          go_wp2_with fail
          go_roundw
          case rel => exact ⟨k + 1, u, W * c.h, by go_num, rfl, by rw [M1.out], HU1.out, HW1.out, HG1.out, HBX1.out, .inr (.inl ⟨by omega, ⟨_, HC1.out⟩, hgu.out⟩)⟩
          case measure => simp [intOf]; omega
    · have HE := Lib.hid (cerr_any hc6)
      have HC1 := Lib.hid hc6
      have hgu := Lib.hid hst
      have hp5 : 256 ^ k ≤ 1099511627776 := Nat.le_trans (Nat.pow_le_pow_right (by decide) (by omega : k ≤ 5)) (by decide)
      have hu4 : u ≤ 1099511627776 := by omega
      clear hc6 hst hu hW hp5
      by_cases hkb : k < c.b
      · have p1 : decide (((k + 1 : Nat) : Int) ≤ (c.b : Int)) = true := decide_eq_true (by omega)
        have p7 : decide ((k : Int) + 1 ≤ (c.b : Int)) = true := decide_eq_true (by omega)
        go_wp2_with fail
        refine HE.out.mono ?_
        rintro ex z ⟨rfl, ez⟩
        have ez := ez.symm
        subst ez
        by_cases hbig : 4294967296 ≤ u
        · have p9 : decide ((4294967296 : Int) ≤ (u : Int)) = true := decide_eq_true (by omega)
          have HFl := Lib.hid (cfail_any 5 HC1.out)
          clear hbig
          go_wp2_with fail
          refine HFl.out.mono ?_
          rintro ex z ⟨rfl, hc9, hg9⟩
          have HE9 := Lib.hid (cerr_any hc9)
          have HC9 := Lib.hid hc9
          have HG9 := Lib.hid (grownBy_trans HGR.out hg9 (.inl rfl))
          have e9 : fe 6 5 = 6 := rfl
          rw [e9] at HC9 HE9
          clear hc9 hg9 e9 HFl
          go_wp2_with fail
          refine HE9.out.mono ?_
          rintro ex z2 ⟨rfl, ez⟩
          have ez := ez.symm
          subst ez
          go_wp2_with fail
          go_ret
          exact ⟨0, _, 6, rfl, HC9.out, outc_error (hN.out hgu.out) (by decide), HG9.out⟩
        · have p9 : decide ((4294967296 : Int) ≤ (u : Int)) = false := decide_eq_false (by omega)
          have HE9 := Lib.hid (cerr_any HC1.out)
          clear hbig
          go_wp2_with fail
          refine HE9.out.mono ?_
          rintro ex z2 ⟨rfl, ez⟩
          have ez := ez.symm
          subst ez
          go_wp2_with fail
          go_ret
          exact ⟨0, _, 6, rfl, HC1.out, outc_error (hN.out hgu.out) (by decide), HGR.out⟩
      · have p1 : decide (((k + 1 : Nat) : Int) ≤ (c.b : Int)) = false := decide_eq_false (by omega)
        have p7 : decide ((k : Int) + 1 ≤ (c.b : Int)) = false := decide_eq_false (by omega)
        by_cases hbig : 4294967296 ≤ u
        · have p9 : decide ((4294967296 : Int) ≤ (u : Int)) = true := decide_eq_true (by omega)
          have HFl := Lib.hid (cfail_any 5 HC1.out)
          clear hbig
          go_wp2_with fail
          refine HFl.out.mono ?_
          rintro ex z ⟨rfl, hc9, hg9⟩
          have HE9 := Lib.hid (cerr_any hc9)
          have HC9 := Lib.hid hc9
          have HG9 := Lib.hid (grownBy_trans HGR.out hg9 (.inl rfl))
          have e9 : fe 6 5 = 6 := rfl
          rw [e9] at HC9 HE9
          clear hc9 hg9 e9 HFl
          go_wp2_with fail
          refine HE9.out.mono ?_
          rintro ex z2 ⟨rfl, ez⟩
          have ez := ez.symm
          subst ez
          go_wp2_with fail
          go_ret
          exact ⟨0, _, 6, rfl, HC9.out, outc_error (hN.out hgu.out) (by decide), HG9.out⟩
        · have p9 : decide ((4294967296 : Int) ≤ (u : Int)) = false := decide_eq_false (by omega)
          have HE9 := Lib.hid (cerr_any HC1.out)
          clear hbig
          go_wp2_with fail
          refine HE9.out.mono ?_
          rintro ex z2 ⟨rfl, ez⟩
          have ez := ez.symm
          subst ez
          go_wp2_with fail
          go_ret
          exact ⟨0, _, 6, rfl, HC1.out, outc_error (hN.out hgu.out) (by decide), HGR.out⟩
    · have HC1 := Lib.hid hc0
      have hgu := Lib.hid hst
      have hp5 : 256 ^ k ≤ 1099511627776 := Nat.le_trans (Nat.pow_le_pow_right (by decide) (by omega : k ≤ 5)) (by decide)
      have hu4 : u ≤ 1099511627776 := by omega
      have p1 : decide (((k + 1 : Nat) : Int) ≤ (c.b : Int)) = false := decide_eq_false (by omega)
      have p7 : decide ((k : Int) + 1 ≤ (c.b : Int)) = false := decide_eq_false (by omega)
      have hkb : ¬ k < c.b := by omega
      clear hc0 hst hu hW hp5 hk
      by_cases hbig : 4294967296 ≤ u
      · have p9 : decide ((4294967296 : Int) ≤ (u : Int)) = true := decide_eq_true (by omega)
        have HFl := Lib.hid (cfail_any 5 HC1.out)
        have hfin := Lib.hid (hF.out _ _ hgu.out hbig)
        clear hbig
        go_wp2_with fail
        refine HFl.out.mono ?_
        rintro ex z ⟨rfl, hc9, hg9⟩
        have HE9 := Lib.hid (cerr_any hc9)
        have HC9 := Lib.hid hc9
        have HG9 := Lib.hid (grownBy_trans HGR.out hg9 (.inl rfl))
        have e9 : fe 0 5 = 5 := rfl
        rw [e9] at HC9 HE9
        clear hc9 hg9 e9 HFl
        go_wp2_with fail
        refine HE9.out.mono ?_
        rintro ex z2 ⟨rfl, ez⟩
        have ez := ez.symm
        subst ez
        go_wp2_with fail
        go_ret
        exact ⟨0, _, 5, rfl, HC9.out, outc_error hfin.out (by decide), HG9.out⟩
      · have p9 : decide ((4294967296 : Int) ≤ (u : Int)) = false := decide_eq_false (by omega)
        have HE9 := Lib.hid (cerr_any HC1.out)
        have hfin := Lib.hid (hO.out _ _ hgu.out hbig)
        have HN9 := Lib.hid (fun w => HNm.out (u : Int) (by omega) (by omega) w)
        have hcast := Lib.hid (show (u : Int) = ((u : Nat) : Int) by omega)
        clear hbig
        go_wp2_with fail
        refine HE9.out.mono ?_
        rintro ex z2 ⟨rfl, ez⟩
        have ez := ez.symm
        subst ez
        go_wp2_with fail
        refine (HN9.out _).mono ?_
        rintro ex z2 ⟨rfl, hb9⟩
        have HB9 := Lib.hid hb9
        clear hb9
        go_wp2_with fail
        go_ret
        exact ⟨_, _, 0, rfl, HC1.out.grow HB9.out, by first | exact outc_ok hfin.out | (rw [hcast.out]; exact outc_ok hfin.out), grownBy_trans HGR.out (grownBy_below HB9.out none) (.inr fun g e => by cases e)⟩
end
end Go.Proofs.YtkdamaomhppkgaaGreat

/- The walk of layer 24: a row that is read. -/
namespace Go.Proofs.YtkdamaomhppkgaaGreat
open Go.RowKit

def sliceLen : Value → Nat
  | .slice _ n _ => n
  | _ => 0
theorem irow_kept {w w1 : World} {base : Nat} {v : Value} {xs : List Int} {b : Nat} {cs : Array Value} {t : TypeId} {fr : Nat × Nat} (h : IRow w base v xs) (g : w.grownBy w1 (some b)) (hb : w.heap[b]? = some (.cells cs t fr)) (ht : t ≠ 3) : IRow w1 base v xs :=
  World.ownsRow.kept h g (.inr (own_ne h hb ht).symm)
theorem ibox_hop {w w1 : World} {base : Nat} {v v' : Value} {xs : List Int} (h : IRow w base v xs) (hp : Hop w w1 v.ownBlock v'.ownBlock) {g : Nat} {cs : Array Value} {t : TypeId} {fr : Nat × Nat} (hb : w.heap[g]? = some (.cells cs t fr)) (ht : t ≠ 3) : w1.heap[g]? = some (.cells cs t fr) :=
  (hp.1.block g (Array.getElem?_eq_some_iff.1 hb).1 (own_ne h hb ht)).trans hb
theorem boundI_zero (s : Nat) : boundI s 0 = true := by unfold boundI; split <;> decide
theorem drop_moves {l : List UInt8} {n m j : Nat} (hm : m ≤ l.length) (hn : n ≤ l.length) (hj : j ≤ (l.drop n).length) (h : l.drop m = (l.drop n).drop j) : m = n + j := by
  have := congrArg List.length h
  simp only [List.length_drop] at this hj
  omega
theorem Cod.get_moves {c : Cod} {l r : List UInt8} {v : Int} (h : c.get l = .ok (v, r)) : ∃ j, 1 ≤ j ∧ j ≤ l.length ∧ r = l.drop j := by
  unfold Cod.get at h
  cases hg : getU c.h (c.b - 1) l with
  | none => rw [hg] at h; cases h
  | some q =>
    obtain ⟨u, r'⟩ := q
    rw [hg] at h
    dsimp only at h
    split at h
    · cases h
    · cases h
      obtain ⟨j, h1, h2, _, h3⟩ := get_rest _ _ _ hg
      exact ⟨j, h1, h2, h3⟩
section
variable {x : World} {b : Nat} {A : Option Addr} {cc : Nat} {l : List UInt8} {n : Nat}
/-- Behind an error nothing is read. -/
theorem readrow_bad (c : Cod) (hc : c.ok) {e : Int} (h : CurS x b A cc l n e) (he : e ≠ 0) (k : Int) (_hk : I64 k) :
    Calls Tryz.prog 85 #[.pointer (some ⟨b, 0, none⟩), c.val, .int .i64 k] x fun ex y => ex = .returned (.slice none 0 0) ∧ CurS y b A cc l n e ∧ x.grownBy y (some b) := by
  have H0 := Lib.hid h
  have HRt := Lib.hid (fun w => right_any c hc w)
  have p0 : (e == 0) = false := by simpa using he
  have p1 : (e != 0) = true := by simpa using he
  have hfe : fe e 1 = e := by unfold fe; rw [if_neg he]
  have HFE := Lib.hid hfe
  unfold Cod.val at *
  unfold I64 at _hk
  have k1 := Lib.hid ((Below.refl x.heap.size x).alloc (Nat.le_refl _) (.cells #[.int .i64 c.b, .int .i64 c.h, .int .i64 c.s, .int .i64 c.d] 122))
  clear h he hfe
  by_cases h1 : k < 0
  · have q1 : decide (k < 0) = true := decide_eq_true h1
    have HFl := Lib.hid (cfail_any 1 (H0.out.grow k1.out))
    clear h1
    go_enter Tryz.func85, Tryz.ntmps85
    go_wp2_with fail
    refine HFl.out.mono ?_
    rintro ex z ⟨rfl, hc9, hg9⟩
    rw [HFE.out] at hc9
    have HC9 := Lib.hid hc9
    have HG9 := Lib.hid (grownBy_trans (grownBy_below k1.out (some b)) hg9 (.inl rfl))
    have HE9 := Lib.hid (cerr_any hc9)
    clear hc9 hg9 HFl
    go_wp2_with fail
    go_loopw [7, 8] (fun s t wr => s = .slice none 0 0 ∧ wr = z) (fun _ _ _ => 0)
    case atStart => exact ⟨rfl, rfl⟩
    case round =>
      obtain ⟨rfl, rfl⟩ := hrel
      go_wp2_with fail
      refine HE9.out.mono ?_
      rintro ex z2 ⟨rfl, ez⟩
      have ez := ez.symm
      subst ez
      go_wp2_with fail
      refine HE9.out.mono ?_
      rintro ex z2 ⟨rfl, ez⟩
      have ez := ez.symm
      subst ez
      go_wp2_with fail
      go_ret
      exact ⟨rfl, HC9.out, HG9.out⟩
  · have q1 : decide (k < 0) = false := decide_eq_false h1
    clear h1
    go_enter Tryz.func85, Tryz.ntmps85
    go_wp2_with fail
    refine (HRt.out _).mono ?_
    rintro ex y ⟨rfl, hb1⟩
    have hx1 := Below.after' k1.out hb1 (by simp)
    have hc9 := H0.out.grow hx1
    have HC9 := Lib.hid hc9
    have HG9 := Lib.hid (grownBy_below hx1 (some b))
    have HE9 := Lib.hid (cerr_any hc9)
    clear hb1 hx1 hc9
    go_wp2_with fail
    go_loopw [7, 8] (fun s t wr => s = .slice none 0 0 ∧ wr = y) (fun _ _ _ => 0)
    case atStart => exact ⟨rfl, rfl⟩
    case round =>
      obtain ⟨rfl, rfl⟩ := hrel
      go_wp2_with fail
      refine HE9.out.mono ?_
      rintro ex z2 ⟨rfl, ez⟩
      have ez := ez.symm
      subst ez
      go_wp2_with fail
      refine HE9.out.mono ?_
      rintro ex z2 ⟨rfl, ez⟩
      have ez := ez.symm
      subst ez
      go_wp2_with fail
      go_ret
      exact ⟨rfl, HC9.out, HG9.out⟩
end
end Go.Proofs.YtkdamaomhppkgaaGreat
