/- Joined texts: PortL, OrdC, PortM. -/
import Derived.Test.YtdmiljaiglaacaaPk10
import Derived.Deep.MidRow
import Derived.Deep.OwnRows
import Derived.LoopN
import Derived.Test.YtdmiljaiglaacaaPk2
import Derived.Test.YtdmiljaiglaacaaPk1
/- The walks of layer 29: a port's rows. -/
namespace Go.Proofs.Ytdmiljaiglaacaa
open Go.RowKit Go.Maps

theorem run_index_array {P : Program} {w : World} {t e : TypeId} {n : Nat} {cs : Array Value} {i : Nat} {v : Value} (h : P.underlying t = some (.array n e)) (ha : (isAgg e).run P w = .ok false w) (hs : (sizeOf e).run P w = .ok 1 w) (hi : i < n) (hv : cs[i]? = some v) :
    (Instr.index t (.agg cs) (.int .i64 i)).run P w = .ok v w := by
  simp [Instr.index, run_underlying h, asIntOf, part, ha, hs, hv, go_sem]
  intro h2
  omega
theorem wpList_appI {w : World} {ops : Array Oper} {rest : List Oper} {o : Oper} {a : Act} {Q : Exit → Act → World → Prop} (hgd : o.guard = none) (s x : Operand)
    (ho : o.op = .call { callee := .builtin .append, args := #[s, x], argTypes := #[45, 45] })
    (base : Nat) (v : Value) (xs : List Int) (hv : a.eval s = v) (hown : IRow w base v xs) (X : Value) (ys : List Int) (hX : a.eval x = X)
    (hs : Src Try.prog 1 45 X ys.length (ic ys) w) (hn : xs.length + ys.length ≤ 1000000000000) (hbase : base ≤ w.heap.size)
    (h : ∀ v' w', IRow w' base v' (xs ++ ys) → Hop w w' v.ownBlock v'.ownBlock → wpList Try.prog ops Q rest (a.put o.dst v') w') : wpList Try.prog ops Q (o :: rest) a w := by
  obtain ⟨i0, hi, hz0, hz1, hz2⟩ := info_parts infoInt
  refine wpList_append_row hgd s x 45 45 ho base 3 i0 _ 1 8 Try.underlying45 hi hz0 hz1 hz2 rfl v _ _ hv hown X ys.length (ic ys) hX (fun v' w' h1 h2 => h v' w' (IRow.app h1 rfl) h2) hs ?_ ?_ hbase
  · unfold maxLen; omega
  · omega
theorem ic_one (xs : List Int) : ∀ u ∈ ic xs, u.oneCell' = true := fun u hu => by
  unfold ic at hu
  obtain ⟨x, _, rfl⟩ := List.mem_map.1 hu
  rfl
theorem Ints.src {w : World} {A : Option Addr} {c : Nat} {xs : List Int} (h : Ints w A c xs) : Src Try.prog 1 45 (.slice A xs.length c) xs.length (ic xs) w := by
  cases xs with
  | nil =>
    cases A with
    | none => exact Src.ofNil w Try.underlying45 c
    | some a => exact Src.ofSlice w Try.underlying45 a 0 c [] rfl (fun j u hu => by simp at hu) (fun u hu => by cases hu)
  | cons y ys =>
    obtain ⟨g, o, rfl, hg, hc⟩ := h.2 (by simp)
    refine Src.ofSlice w Try.underlying45 ⟨g, o, none⟩ _ c _ (by rw [ic_length, Nat.mul_one]) (fun j u hu => ?_) (ic_one _)
    rw [off_addr]
    unfold ic at hu
    rw [List.getElem?_map] at hu
    cases hq : (y :: ys)[j]? with
    | none => rw [hq] at hu; cases hu
    | some z =>
      rw [hq] at hu
      cases hu
      exact hc j z hq
theorem ifresh0 {x : World} {B base : Nat} (h : x.heap[B]? = some (.cells #[] 3 (0, 0))) (hb : base ≤ B) : IRow x base (.slice (some ⟨B, 0, none⟩) 0 0) [] :=
  ⟨rfl, .inr ⟨B, 0, #[], rfl, hb, h, Nat.le_refl _, by unfold maxLen; omega, rfl, rfl⟩⟩
set_option maxHeartbeats 1000000 in
set_option maxRecDepth 100000 in
theorem iclone_any (A : Option Addr) (c : Nat) (l : List Int) (w : World) (hx : Ints w A c l) (hn : l.length ≤ 1000000000) (hA : A = none → c = 0) :
    Calls Try.prog 33 #[.slice A l.length c] w fun e w' => ∃ u, e = .returned u ∧ IRow w' w.heap.size u l ∧ Below w.heap.size w w' := by
  have HX := Lib.hid hx
  have qn : ∀ (w : World) (a : Option Addr) (n c : Nat), (binOp .eql 45 (.slice a n c) (.slice none 0 0)).run Try.prog w = .ok (.bool a.isNone) w := fun w a n c => Lib.run_eql_slice_nil w _ _ _ _ _ _ _ Try.underlying45
  clear hx
  cases A with
  | none =>
    obtain rfl : l = [] := by
      cases l with
      | nil => rfl
      | cons x l => obtain ⟨g, o, e, _⟩ := HX.out.2 (by simp); cases e
    obtain rfl := hA rfl
    clear hA HX
    go_enter Try.func33, Try.ntmps33
    go_wp2
    go_ret
    exact ⟨_, rfl, IRow.nil _ _, Below.refl _ _⟩
  | some a =>
    clear hA
    go_enter Try.func33, Try.ntmps33
    go_wp2_with (at_builtin; refine wpList_appI rfl _ _ rfl w.heap.size (.slice (some ⟨_, 0, none⟩) 0 0) [] rfl (ifresh0 (heap_alloc_new _ _) (Nat.le_refl _)) _ l rfl (HX.out.grow ((Below.refl _ _).alloc (Nat.le_refl _) _)).src (by simp; omega) (by simp) ?_; intro v1 w1 hr1 hp1)
    have hb1 := Lib.hid (show Below w.heap.size w w1 from Below.trans ((Below.refl _ _).alloc (Nat.le_refl _) _) (hp1.below (by simp) (fun k hk => by cases hk; simp)))
    have HR := Lib.hid hr1
    clear hr1 hp1
    go_ret
    exact ⟨_, rfl, HR.out, hb1.out⟩

/-- A row that lies behind a base, and reads. -/
def ISub (w : World) (base : Nat) (v : Value) (xs : List Int) : Prop := ∃ A c, v = .slice A xs.length c ∧ Ints w A c xs ∧ (A = none → c = 0) ∧ ∀ g o s, A = some ⟨g, o, s⟩ → base ≤ g
theorem ISub.of {w : World} {base : Nat} {v : Value} {xs : List Int} (h : IRow w base v xs) : ISub w base v xs := by
  obtain ⟨A, c, e, hx⟩ := h.reads
  refine ⟨A, c, e, hx, fun hA => ?_, fun g o s hA => ?_⟩
  · subst hA
    rcases h.2 with ⟨e2, _⟩ | ⟨g, cap, cur, e2, _⟩
    · rw [e] at e2; simp at e2; exact e2.2
    · rw [e] at e2; cases e2
  · subst hA
    exact h.base_le (k := g) (by rw [e]; rfl)
theorem ISub.off {w : World} {base : Nat} {v : Value} {xs : List Int} (h : IOff w base v xs) : ISub w base v xs := by
  obtain ⟨A, c, e, hx⟩ := h.reads
  refine ⟨A, c, e, hx, fun hA => ?_, fun g o s hA => ?_⟩
  · subst hA
    rcases h.2 with ⟨e2, _⟩ | ⟨g, o, cap, cur, e2, _⟩
    · rw [e] at e2; simp at e2; exact e2.2
    · rw [e] at e2; cases e2
  · subst hA
    exact (h.lt (k := g) (by rw [e]; rfl)).1
theorem ISub.nil (w : World) (base : Nat) : ISub w base (.slice none 0 0) [] := ⟨none, 0, rfl, Ints.nil _ _ _, fun _ => rfl, fun g o s h => by cases h⟩
theorem ISub.grow {w w1 : World} {base : Nat} {v : Value} {xs : List Int} (h : ISub w base v xs) (k : Below w.heap.size w w1) : ISub w1 base v xs := by
  obtain ⟨A, c, e, hx, h1, h2⟩ := h
  exact ⟨A, c, e, hx.grow k, h1, h2⟩
theorem ISub.kept {w w1 : World} {base g : Nat} {v : Value} {xs : List Int} (h : ISub w base v xs) (k : w.grownBy w1 (some g)) (hg : g < base) : ISub w1 base v xs := by
  obtain ⟨A, c, e, hx, h1, h2⟩ := h
  refine ⟨A, c, e, ⟨hx.1, fun hp => ?_⟩, h1, h2⟩
  obtain ⟨g', o, e', hg', hc⟩ := hx.2 hp
  have hne : g' ≠ g := fun h => by have := h2 g' o none e'; omega
  exact ⟨g', o, e', Nat.lt_of_lt_of_le hg' k.size, fun j x hj => (World.cell?_of_block (k.block g' hg' (fun e => hne (Option.some.inj e)))).trans (hc j x hj)⟩
theorem ISub.lower {w : World} {base b : Nat} {v : Value} {xs : List Int} (h : ISub w base v xs) (hb : b ≤ base) : ISub w b v xs := by
  obtain ⟨A, c, e, hx, h1, h2⟩ := h
  exact ⟨A, c, e, hx, h1, fun g o s hA => Nat.le_trans hb (h2 g o s hA)⟩
theorem ISub.clone {w : World} {base : Nat} {v : Value} {xs : List Int} (h : ISub w base v xs) (hn : xs.length ≤ 1000000000) :
    Calls Try.prog 33 #[v] w fun e w' => ∃ u, e = .returned u ∧ IRow w' w.heap.size u xs ∧ Below w.heap.size w w' := by
  obtain ⟨A, c, rfl, hx, h1, _⟩ := h
  exact iclone_any A c xs w hx hn h1
/-- What the rows come to. -/
def RowsOk (w : World) (R : Nat → List Int) (e : Ending) (w' : World) : Prop :=
  ∃ u : Nat → Value, e = .returned (.slice (some ⟨w.heap.size, 0, none⟩) 64 64) ∧ w'.rowIs w.heap.size 45 64 u ∧ (∀ t, t < 64 → ISub w' (w.heap.size + 1) (u t) (R t)) ∧ Below w.heap.size w w'
section
variable {x : World} {base b : Nat} {tp : Value} {us : Nat → Value} {R : Nat → List Int} {rd : Bool} {e : Int}
theorem infoInts : (Try.prog.info? 45).map (fun i => (i.zero, i.size, i.bytes)) = some (some (.slice none 0 0), 1, 24) := by kernel_rfl
theorem isAggInts (w : World) : (isAgg 45).run Try.prog w = .ok false w := by kernel_rfl
theorem sizeInts (w : World) : (sizeOf 45).run Try.prog w = .ok 1 w := by kernel_rfl
set_option maxRecDepth 100000 in
set_option maxHeartbeats 4000000 in
theorem rows_any (h : PortS x base b tp us R rd e) (hl : ∀ t, (R t).length ≤ 1000000) : Calls Try.prog 13 #[.pointer (some ⟨b, 0, none⟩)] x (RowsOk x R) := by
  have H := Lib.hid h
  have hbz := h.box.lt
  have hmk := run_make_row' (P := Try.prog) 42 45 (.slice none 0 0) 24 Try.underlying42 infoInts rfl .i64 .i64 64 (by omega) (by omega)
  rw [show (((64 : Nat)) : Int) = 64 from rfl] at hmk
  have k0 := Lib.hid ((Below.refl x.heap.size x).alloc (Nat.le_refl _) (.cells (madeCells #[.slice none 0 0] 64) 45))
  have M0 := Lib.hid (World.rowIs_made x (.slice none 0 0) 64 45)
  have HLN := Lib.hid hl
  clear h hl
  go_enter Try.func13, Try.ntmps13
  go_upto_region 4 with fail
  have hK := k0.out
  have hxz : x.heap.size < (x.alloc (.cells (madeCells #[.slice none 0 0] 64) 45)).heap.size := by simp
  generalize x.alloc (.cells (madeCells #[.slice none 0 0] 64) 45) = W at *
  have HW := Lib.hid (H.out.grow hK)
  have hrng : W.rangeAt b 1 ((List.range 64).map us) := fun j v hj => by
    rw [List.getElem?_map] at hj
    cases hq : (List.range 64)[j]? with
    | none => rw [hq] at hj; cases hj
    | some z =>
      rw [hq] at hj
      cases hj
      obtain ⟨h1, h2⟩ := List.getElem?_eq_some_iff.1 hq
      simp at h1 h2
      subst h2
      exact HW.out.box.row h1
  have hsz : (Try.prog.info? 64).map (·.size) = some ((List.range 64).map us).length := by rw [List.length_map, List.length_range]; kernel_rfl
  have hRA : ∀ i, i < 64 → ((List.range 64).map us).toArray[i]? = some (us i) := fun i hi => by
    rw [List.getElem?_toArray, List.getElem?_map, List.getElem?_range hi]
    rfl
  generalize (List.range 64).map us = RL at hrng hsz hRA
  have HRA := Lib.hid hRA
  have hwz := HW.out.box.lt
  clear hRA hmk hK
  go_wp2_with (refine wpList_load_mid rfl 64 _ rfl b 1 rfl RL _ hrng Try.underlying64 rfl hsz ?_)
  go_loopw [13] (fun t wr => ∃ (i : Nat) (u : Nat → Value), i ≤ 64 ∧ t = .int .i64 i ∧ wr.rowIs x.heap.size 45 64 (fun j => if j < i then u j else .slice none 0 0) ∧ (∀ j, j < i → ISub wr (x.heap.size + 1) (u j) (R j)) ∧ Below x.heap.size W wr) (fun t _ => 64 - (intOf t).toNat)
  case atStart => exact ⟨0, fun _ => .slice none 0 0, by omega, rfl, M0.out.congr (fun j _ => by simp), (fun j hj => by omega), Below.refl _ _⟩
  case round =>
    obtain ⟨i, u, hil, rfl, hrow, hsub, hB⟩ := hrel
    have ROW := Lib.hid hrow
    have SUB := Lib.hid hsub
    have MB := Lib.hid hB
    have hzr := hrow.lt
    clear hrow hsub hB
    by_cases hi : i < 64
    · have p1 : decide ((i : Int) < 64) = true := decide_eq_true (by omega)
      have p2 : decide (i < 64) = true := decide_eq_true hi
      have hix := run_index_array (P := Try.prog) (w := wr) Try.underlying64 (isAggInts wr) (sizeInts wr) hi (HRA.out i hi)
      have KX := Lib.hid (k0.out.trans MB.out)
      have hIS : ISub wr base (us i) (R i) := (ISub.off (H.out.rows i hi)).grow KX.out
      have HCL := Lib.hid (hIS.clone (Nat.le_trans (HLN.out i) (by omega)))
      clear hIS
      go_wp2_with fail
      refine HCL.out.mono ?_
      rintro e w2 ⟨v, rfl, hr, hb⟩
      obtain ⟨A, c, rfl, hx, hA1, hA2⟩ := ISub.of hr
      have hsize : x.heap.size + 1 ≤ wr.heap.size := hzr
      have row2 : w2.rowIs x.heap.size 45 64 (fun j => if j < i then u j else .slice none 0 0) := ROW.out.of_block (hb.block _ hzr)
      have c2 := row2.cell hi
      have f2 := row2.frozen i
      have z2 := row2.lt
      rw [if_neg (Nat.lt_irrefl i)] at c2
      have trn := setCell_turned w2 x.heap.size i (.slice A (R i).length c)
      have ROW3 := Lib.hid (show (w2.setCell ⟨x.heap.size, i, none⟩ (.slice A (R i).length c)).rowIs x.heap.size 45 64 (fun j => if j < i + 1 then (if j = i then .slice A (R i).length c else u j) else .slice none 0 0) from (row2.set i _).congr (fun j _ => by
        by_cases e : j = i
        · subst e; simp
        · rw [if_neg e, if_neg e]
          by_cases h1 : j < i
          · rw [if_pos h1, if_pos (by omega)]
          · rw [if_neg h1, if_neg (by omega)]))
      have SUB3 := Lib.hid (show ∀ j, j < i + 1 → ISub (w2.setCell ⟨x.heap.size, i, none⟩ (.slice A (R i).length c)) (x.heap.size + 1) (if j = i then .slice A (R i).length c else u j) (R j) from fun j hj => by
        by_cases e : j = i
        · subst e
          rw [if_pos rfl]
          exact ((ISub.of hr).lower hsize).kept trn (by omega)
        · rw [if_neg e]
          exact ((SUB.out j (by omega)).grow hb).kept trn (by omega))
      have B3 := Lib.hid (show Below x.heap.size W (w2.setCell ⟨x.heap.size, i, none⟩ (.slice A (R i).length c)) from (MB.out.trans (hb.mono (by omega))).setCell (p := ⟨x.heap.size, i, none⟩) (Nat.le_refl _) _)
      clear hr hx hA1 hA2 hb row2 HCL trn SUB ROW
      go_wp2_with fail
      go_roundw
      case rel => exact ⟨i + 1, _, by omega, by go_num, ROW3.out, SUB3.out, B3.out⟩
      case measure => simp [intOf]; omega
    · obtain rfl : i = 64 := by omega
      have p1 : decide ((64 : Int) < 64) = false := rfl
      have KX := Lib.hid (k0.out.trans MB.out)
      have ROW3 := Lib.hid (show wr.rowIs x.heap.size 45 64 u from ROW.out.congr (fun j hj => by rw [if_pos hj]))
      clear ROW
      go_wp2_with fail
      go_ret
      exact ⟨u, rfl, ROW3.out, SUB.out, KX.out⟩
end
end Go.Proofs.Ytdmiljaiglaacaa

/- As XOrder, and an operation may be an append onto a fresh row, or a call of which a fact about what it returns is all that is known: whatever it comes to. No program. -/
namespace Go.Proofs.Ytdmiljaiglaacaa.OrdC
open Go.RowKit

/-- What comes out: a block, a value, what the block holds; 'got': is there a block at all? -/
structure Out where
  B : Nat
  v : Value
  obj : Obj
  got : Bool := true

section
variable {fr : Oper → Nat} {Ψ : Oper → Out → Prop} {P : Program} {ops : Array Oper} {md : Region.Mode} {Q : Exit → Act → World → Prop} {w0 x y : World} {E F : Env}

def isApp (o : Oper) : Bool := match o.op with | .call c => (match c.callee with | .builtin .append => true | _ => false) | _ => false
/-- 1: an append; 2: a call that is told by a fact; 3: what asks nothing of the world, by its values; 0: all else. -/
def sp (fr : Oper → Nat) (o : Oper) : Nat := if isApp o then 1 else if fr o = 1 then 0 else fr o
/-- What an operation comes to: one value; a fresh block that holds this; a row of its own, new or the old one; or what a call returns. -/
inductive Kind where
  | val (v : Value)
  | blk (obj : Obj)
  | app
  | call
  | free (v : Value)
def Kind.res (o : Oper) (k : Kind) (ω : Out) : Value := match k with | .val v => v | .blk _ => blkVal o ω.B | .app => ω.v | .call => ω.v | .free v => v
def Kind.env (o : Oper) (k : Kind) (ω : Out) (E : Env) : Env := match k with | .val _ => E | .blk obj => E.upd o.dst ω.B obj | .app => E.upd o.dst ω.B ω.obj | .call => if ω.got then E.upd o.dst ω.B ω.obj else E | .free _ => E
def Fits (Ψ : Oper → Out → Prop) (P : Program) (w0 : World) (F : Env) (o : Oper) (a : Act) (k : Kind) (ω : Out) : Prop := match k with
  | .val _ => True
  | .blk _ => w0.heap.size ≤ ω.B
  | .app => w0.heap.size ≤ ω.B ∧ ω.v.ownBlock = some ω.B ∧ ∃ x y, Cl w0 F x ∧ (execOp a.eval o).run P x = .ok (.value ω.v) y ∧ y.heap[ω.B]? = some ω.obj
  | .call => Ψ o ω ∧ (ω.got = true → w0.heap.size ≤ ω.B)
  | .free _ => True

def Runs (fr : Oper → Nat) (Ψ : Oper → Out → Prop) (P : Program) (ops : Array Oper) (w0 : World) (F : Env) (o : Oper) (a : Act) : Kind → Prop
  | .val v => sp fr o = 0 ∧ ((Region.wanted o (yielded ops a.tmps) = true ∧ ∀ x, Cl w0 F x → o.quietAt P a (fun y => Below x.heap.size x y) x v) ∨ (Region.wanted o (yielded ops a.tmps) = false ∧ v = undef))
  | .blk obj => sp fr o = 0 ∧ Region.wanted o (yielded ops a.tmps) = true ∧ ∀ x, Cl w0 F x → (execOp a.eval o).run P x = .ok (.value (blkVal o x.heap.size)) (x.alloc obj)
  | .app => sp fr o = 1 ∧ Region.wanted o (yielded ops a.tmps) = true ∧ ∀ x, Cl w0 F x → ∃ v y B obj, (execOp a.eval o).run P x = .ok (.value v) y ∧ Below x.heap.size x y ∧ w0.heap.size ≤ B ∧ v.ownBlock = some B ∧ y.heap[B]? = some obj
  | .call => sp fr o = 2 ∧ Region.wanted o (yielded ops a.tmps) = true ∧ ∀ x, Cl w0 F x → ∃ f args, (execOp a.eval o).run P x = .ok (.enter f args) x ∧ Calls P f args x fun e y => ∃ ω : Out, e = .returned ω.v ∧ Below x.heap.size x y ∧ (ω.got = true → w0.heap.size ≤ ω.B ∧ y.heap[ω.B]? = some ω.obj) ∧ Ψ o ω
  | .free v => sp fr o = 3 ∧ Region.wanted o (yielded ops a.tmps) = true ∧ ∀ x, (execOp a.eval o).run P x = .ok (.value v) x

theorem Runs.det {o : Oper} {a : Act} : ∀ {k1 k2 : Kind}, Runs fr Ψ P ops w0 F o a k1 → Runs fr Ψ P ops w0 F o a k2 → Cl w0 F x → k1 = k2
  | .val v, .val u, h1, h2, hx => by
    rcases h1.2 with ⟨w1, h1⟩ | ⟨w1, h1⟩ <;> rcases h2.2 with ⟨w2, h2⟩ | ⟨w2, h2⟩
    · exact congrArg _ (quietUpon_det (h1 x hx) (h2 x hx))
    · rw [w1] at w2; cases w2
    · rw [w1] at w2; cases w2
    · rw [h1, h2]
  | .val v, .blk o2, h1, h2, hx => by
    rcases h1.2 with ⟨w1, h1⟩ | ⟨w1, h1⟩
    · have := h1 x hx
      unfold Oper.quietAt at this
      rw [h2.2.2 x hx] at this
      exact absurd this.1 (alloc_ne x o2)
    · have := h2.2.1; rw [w1] at this; cases this
  | .blk o1, .val u, h1, h2, hx => by
    rcases h2.2 with ⟨w2, h2⟩ | ⟨w2, h2⟩
    · have := h2 x hx
      unfold Oper.quietAt at this
      rw [h1.2.2 x hx] at this
      exact absurd this.1 (alloc_ne x o1)
    · have := h1.2.1; rw [w2] at this; cases this
  | .blk o1, .blk o2, h1, h2, hx => by
    have := (h1.2.2 x hx).symm.trans (h2.2.2 x hx)
    simp only [Result.ok.injEq] at this
    exact congrArg _ (alloc_inj this.2)
  | .app, .app, _, _, _ => rfl
  | .app, .val _, h1, h2, _ => by have := h1.1; rw [h2.1] at this; cases this
  | .app, .blk _, h1, h2, _ => by have := h1.1; rw [h2.1] at this; cases this
  | .val _, .app, h1, h2, _ => by have := h2.1; rw [h1.1] at this; cases this
  | .blk _, .app, h1, h2, _ => by have := h2.1; rw [h1.1] at this; cases this
  | .call, .call, _, _, _ => rfl
  | .free v, .free u, h1, h2, hx => by
    have := (h1.2.2 x).symm.trans (h2.2.2 x)
    simp only [Result.ok.injEq, Next.value.injEq] at this
    exact congrArg _ this.1
  | .free _, .val _, h1, h2, _ => by have := h1.1; rw [h2.1] at this; cases this
  | .free _, .blk _, h1, h2, _ => by have := h1.1; rw [h2.1] at this; cases this
  | .free _, .app, h1, h2, _ => by have := h1.1; rw [h2.1] at this; cases this
  | .free _, .call, h1, h2, _ => by have := h1.1; rw [h2.1] at this; cases this
  | .val _, .free _, h1, h2, _ => by have := h1.1; rw [h2.1] at this; cases this
  | .blk _, .free _, h1, h2, _ => by have := h1.1; rw [h2.1] at this; cases this
  | .app, .free _, h1, h2, _ => by have := h1.1; rw [h2.1] at this; cases this
  | .call, .free _, h1, h2, _ => by have := h1.1; rw [h2.1] at this; cases this
  | .call, .val _, h1, h2, _ => by have := h1.1; rw [h2.1] at this; cases this
  | .call, .blk _, h1, h2, _ => by have := h1.1; rw [h2.1] at this; cases this
  | .call, .app, h1, h2, _ => by have := h1.1; rw [h2.1] at this; cases this
  | .val _, .call, h1, h2, _ => by have := h1.1; rw [h2.1] at this; cases this
  | .blk _, .call, h1, h2, _ => by have := h1.1; rw [h2.1] at this; cases this
  | .app, .call, h1, h2, _ => by have := h1.1; rw [h2.1] at this; cases this

theorem Runs.put {o : Oper} {a : Act} {dst : Option Tmp} {u : Value} (hs : ∀ cs b, o.op ≠ .select cs b) (h : ∀ d, dst = some d → d ∉ o.looksAt ops) (k : Kind) : Runs fr Ψ P ops w0 F o (a.put dst u) k ↔ Runs fr Ψ P ops w0 F o a k := by
  cases k <;> simp only [Runs, Oper.quietAt, execOp_put o hs a dst u h, wanted_put o a dst u h]
theorem Fits.put {o : Oper} {a : Act} {dst : Option Tmp} {u : Value} (hs : ∀ cs b, o.op ≠ .select cs b) (h : ∀ d, dst = some d → d ∉ o.looksAt ops) (k : Kind) (ω : Out) : Fits Ψ P w0 F o (a.put dst u) k ω ↔ Fits Ψ P w0 F o a k ω := by
  cases k <;> simp only [Fits, execOp_put o hs a dst u h]
theorem Env.only_upd {o1 : Option Nat} {oj : Oper} (B : Nat) (obj : Obj) (h : ∀ d, o1 = some d → d ∉ oj.looksAt ops) : (E.upd o1 B obj).only ops oj = E.only ops oj := by
  funext s C u
  apply propext
  exact ⟨fun ⟨h1, h2⟩ => ⟨h1, h2.resolve_right fun h3 => h s h3.1 (by simpa using h1)⟩, fun ⟨h1, h2⟩ => ⟨h1, .inl h2⟩⟩
theorem Env.only_env {oi oj : Oper} (k : Kind) (ω : Out) (h : ∀ d, oi.dst = some d → d ∉ oj.looksAt ops) : (k.env oi ω E).only ops oj = E.only ops oj := by
  cases k with
  | val v => rfl
  | blk obj => exact Env.only_upd ω.B obj h
  | app => exact Env.only_upd ω.B ω.obj h
  | call =>
    show (if ω.got then E.upd oi.dst ω.B ω.obj else E).only ops oj = E.only ops oj
    split
    · exact Env.only_upd ω.B ω.obj h
    · rfl
  | free v => rfl
theorem upd_comm {d1 d2 : Option Nat} {B1 B2 : Nat} {o1 o2 : Obj} : (E.upd d1 B1 o1).upd d2 B2 o2 = (E.upd d2 B2 o2).upd d1 B1 o1 := by
  funext s C u
  apply propext
  exact ⟨fun h => by rcases h with (h | h) | h <;> simp [Env.upd, h], fun h => by rcases h with (h | h) | h <;> simp [Env.upd, h]⟩
theorem Kind.env_comm {oi oj : Oper} (ki kj : Kind) (ωi ωj : Out) : ki.env oi ωi (kj.env oj ωj E) = kj.env oj ωj (ki.env oi ωi E) := by
  cases ki <;> cases kj <;> simp only [Kind.env] <;> (repeat' split) <;> first | rfl | exact upd_comm
theorem Kind.env_le (o : Oper) (k : Kind) (ω : Out) (s C : Nat) (u : Obj) (h : E s C u) : k.env o ω E s C u := by
  cases k with
  | val _ => exact h
  | blk _ => exact .inl h
  | app => exact .inl h
  | call =>
    show (if ω.got then E.upd o.dst ω.B ω.obj else E) s C u
    split
    · exact .inl h
    · exact h
  | free _ => exact h
theorem cl_app (h : Cl w0 E x) (k : Below x.heap.size x y) {B : Nat} {obj : Obj} (hB : w0.heap.size ≤ B) (hy : y.heap[B]? = some obj) (d : Option Nat) : Cl w0 (E.upd d B obj) y := by
  have hg := h.grow k
  refine ⟨hg.below, fun s C o e => ?_⟩
  rcases e with e | ⟨_, rfl, rfl⟩
  · exact hg.fact s C o e
  · exact ⟨hB, hy⟩
theorem cl_call (h : Cl w0 E x) (k : Below x.heap.size x y) {ω : Out} (hg : ω.got = true → w0.heap.size ≤ ω.B ∧ y.heap[ω.B]? = some ω.obj) (d : Option Nat) : Cl w0 (if ω.got then E.upd d ω.B ω.obj else E) y := by
  split
  · rename_i e
    exact cl_app h k (hg e).1 (hg e).2 d
  · exact h.grow k
/-- It comes to something. -/
theorem Runs.out {o : Oper} {a : Act} {k : Kind} (h : Runs fr Ψ P ops w0 (E.only ops o) o a k) (hx : Cl w0 E x) : ∃ ω w', Fits Ψ P w0 (E.only ops o) o a k ω ∧ Cl w0 (k.env o ω E) w' := by
  cases k with
  | val v => exact ⟨⟨0, v, .map #[] 0, true⟩, x, trivial, hx⟩
  | blk obj => exact ⟨⟨x.heap.size, undef, obj, true⟩, _, hx.below.size, hx.upd o.dst obj⟩
  | app =>
    obtain ⟨v, y, B, obj, h1, h2, h3, h4, h5⟩ := h.2.2 x (hx.only o)
    exact ⟨⟨B, v, obj, true⟩, y, ⟨h3, h4, x, y, hx.only o, h1, h5⟩, cl_app hx h2 h3 h5 o.dst⟩
  | call =>
    obtain ⟨f, args, _, hc⟩ := h.2.2 x (hx.only o)
    obtain ⟨e, y, _, ⟨ω, _, hb, hg, hψ⟩, _⟩ := hc []
    exact ⟨ω, y, ⟨hψ, fun e => (hg e).1⟩, cl_call hx hb hg o.dst⟩
  | free v => exact ⟨⟨0, v, .map #[] 0, true⟩, x, trivial, hx⟩

theorem Runs.wpOp {i : Nat} {o : Oper} {a : Act} {k : Kind} (hi : ops[i]? = some o) (h : Runs fr Ψ P ops w0 (E.only ops o) o a k) (hx : Cl w0 E x) {K : Act → World → Prop}
    (hK : ∀ ω y, Fits Ψ P w0 (E.only ops o) o a k ω → Cl w0 (k.env o ω E) y → K (a.put o.dst (k.res o ω)) y) : Go.wpOp P ops Q i K a x := by
  unfold Go.wpOp
  simp only [hi]
  cases k with
  | val v =>
    have hK' := fun y hy => hK ⟨0, v, .map #[] 0, true⟩ y trivial hy
    rcases h.2 with ⟨hw, hv⟩ | ⟨hw, rfl⟩
    · rw [if_pos hw]
      refine .inl ?_
      have h3 := hv x (hx.only o)
      unfold Oper.quietAt at h3
      unfold Oper.wp
      generalize (execOp a.eval o).run P x = r at *
      cases r with
      | ok n w' =>
        cases n <;> simp only [Oper.quietUpon] at h3 <;> simp only [Oper.upon]
        case value u => obtain ⟨rfl, rfl⟩ := h3; exact hK' _ hx
        case skip => obtain ⟨rfl, rfl⟩ := h3; exact hK' _ hx
        case enter f args =>
          obtain ⟨rfl, hc⟩ := h3
          exact hc.mono fun e w'' ⟨he, hw''⟩ => by subst he; exact hK' _ (hx.grow hw'')
      | halt => simp only [Oper.quietUpon] at h3
    · rw [if_neg (by rw [hw]; decide)]
      exact hK' x hx
  | blk obj =>
    rw [if_pos h.2.1]
    refine .inl ?_
    unfold Oper.wp
    rw [h.2.2 x (hx.only o)]
    exact hK ⟨x.heap.size, undef, obj, true⟩ _ hx.below.size (hx.upd o.dst obj)
  | app =>
    rw [if_pos h.2.1]
    refine .inl ?_
    obtain ⟨v, y, B, obj, h1, h2, h3, h4, h5⟩ := h.2.2 x (hx.only o)
    unfold Oper.wp
    rw [h1]
    exact hK ⟨B, v, obj, true⟩ y ⟨h3, h4, x, y, hx.only o, h1, h5⟩ (cl_app hx h2 h3 h5 o.dst)
  | call =>
    rw [if_pos h.2.1]
    refine .inl ?_
    obtain ⟨f, args, h1, hc⟩ := h.2.2 x (hx.only o)
    unfold Oper.wp
    rw [h1]
    simp only [Oper.upon]
    exact hc.mono fun e w'' ⟨ω, he, hb, hg, hψ⟩ => by
      subst he
      exact hK ω w'' ⟨hψ, fun e => (hg e).1⟩ (cl_call hx hb hg o.dst)
  | free v =>
    rw [if_pos h.2.1]
    refine .inl ?_
    unfold Oper.wp
    rw [h.2.2 x]
    exact hK ⟨0, v, .map #[] 0, true⟩ x trivial hx

/-- What may come behind an operation of the tail: it asks nothing of the world. -/
def lateF (fr : Oper → Nat) (o : Oper) : Bool := lateB o || sp fr o == 3
theorem late_yields {o : Oper} {a : Act} {k : Kind} (h : lateF fr o = true) (hr : Runs fr Ψ P ops w0 F o a k) (hx : Cl w0 F x) :
    ∃ v, (∀ ω E, k.env o ω E = E) ∧ (∀ ω, k.res o ω = v) ∧ (∀ ω, Fits Ψ P w0 F o a k ω) ∧ Yields P ops o v a := by
  have hB : ∀ n, n ≠ 3 → sp fr o = n → lateB o = true := fun n hn hs => by
    unfold lateF at h
    rw [hs, Bool.or_eq_true] at h
    rcases h with h | h
    · exact h
    · exact absurd (by simpa using h) hn
  cases k with
  | val v =>
    have h := hB 0 (by decide) hr.1
    refine ⟨v, fun _ _ => rfl, fun _ => rfl, fun _ => trivial, ?_⟩
    rcases hr.2 with ⟨hw, hv⟩ | hr
    · refine .inl ⟨hw, ?_⟩
      have := hv x hx
      unfold Oper.quietAt at this
      rcases late_run (P := P) o h a.eval with ⟨u, hu⟩ | hu
      · rw [hu x] at this
        simp only [Oper.quietUpon] at this
        rw [← this.2]
        exact hu
      · obtain ⟨hh, e⟩ := hu x
        rw [e] at this
        simp only [Oper.quietUpon] at this
    · exact .inr hr
  | blk obj =>
    have h := hB 0 (by decide) hr.1
    have := hr.2.2 x hx
    rcases late_run (P := P) o h a.eval with ⟨u, hu⟩ | hu
    · rw [hu x] at this
      simp only [Result.ok.injEq] at this
      exact absurd this.2.symm (alloc_ne x obj)
    · obtain ⟨hh, e⟩ := hu x
      rw [e] at this
      cases this
  | app =>
    have h := hB 1 (by decide) hr.1
    exfalso
    have h1 := hr.1
    have h2 : isApp o = true := by
      apply Classical.byContradiction
      intro hn
      unfold lateB at h
      unfold sp at h1
      rw [if_neg hn] at h1
      split at h1
      · cases h1
      · rename_i h3; exact h3 h1
    unfold lateB at h
    unfold isApp at h2
    split at h
    · rename_i ho; rw [ho] at h2; cases h2
    · rename_i ho; rw [ho] at h2; cases h2
    · cases h
  | call =>
    have h := hB 2 (by decide) hr.1
    obtain ⟨f, args, h1, _⟩ := hr.2.2 x hx
    rcases late_run (P := P) o h a.eval with ⟨u, hu⟩ | hu
    · rw [hu x] at h1; simp at h1
    · obtain ⟨hh, e⟩ := hu x
      rw [e] at h1
      cases h1
  | free v => exact ⟨v, fun _ _ => rfl, fun _ => rfl, fun _ => trivial, .inl ⟨hr.2.1, hr.2.2⟩⟩

def ordLate (fr : Oper → Nat) (md : Region.Mode) (ops : Array Oper) (n : Nat) : Bool :=
  (List.range n).all fun i => (match ops[i]? with | some oi => lateF fr oi | none => false) || (List.range ops.size).all fun t => decide (t < n) || waitsT md ops 5 t i
def ordB (fr : Oper → Nat) (md : Region.Mode) (ops : Array Oper) (n : Nat) : Bool :=
  Region.noSelect ops && decide (n ≤ ops.size) && ordLate fr md ops n && ordHead md ops (ops.size - n) n 0 (Array.replicate ops.size false)
theorem ordLate_spec {md : Region.Mode} {n : Nat} (h : ordLate fr md ops n = true) {i : Nat} (hi : i < n) {oi : Oper} (hoi : ops[i]? = some oi) (t : Nat) (ot : Oper) (ht : n ≤ t) (hot : ops[t]? = some ot) :
    (∃ f, waitsT md ops f t i = true) ∨ lateF fr oi = true := by
  have h1 := List.all_eq_true.1 h i (List.mem_range.2 hi)
  simp only [hoi, Bool.or_eq_true] at h1
  rcases h1 with h1 | h1
  · exact .inr h1
  · have h2 := List.all_eq_true.1 h1 t (List.mem_range.2 (Array.getElem?_eq_some_iff.1 hot).1)
    simp only [Bool.or_eq_true, decide_eq_true_eq] at h2
    rcases h2 with h2 | h2
    · omega
    · exact .inl ⟨5, h2⟩

/-- Whatever order is picked while operations of the head (the first n) are to come; 'g': how many there are behind the head. -/
def AO (fr : Oper → Nat) (Ψ : Oper → Out → Prop) (P : Program) (md : Region.Mode) (ops : Array Oper) (Q : Exit → Act → World → Prop) (w0 : World) (n g : Nat) : Nat → Array Bool → Env → Act → Prop
  | 0, listed, E, a => ∀ w, Cl w0 E w → (∀ j ∈ Region.ready md ops listed, n ≤ j) ∧ wpAny P md ops Q g listed a w
  | f + 1, listed, E, a => ∀ w, Cl w0 E w → Region.ready md ops listed ≠ [] ∧
      (∀ j ∈ Region.ready md ops listed, j < n → ∃ o k, ops[j]? = some o ∧ Runs fr Ψ P ops w0 (E.only ops o) o a k ∧
        ∀ ω, Fits Ψ P w0 (E.only ops o) o a k ω → AO fr Ψ P md ops Q w0 n g f (listed.setIfInBounds j true) (k.env o ω E) (a.put o.dst (k.res o ω))) ∧
      ((∃ j ∈ Region.ready md ops listed, n ≤ j) → wpAny P md ops Q (f + 1 + g) listed a w)

theorem AO.any {n g : Nat} : ∀ (f : Nat) (listed : Array Bool) (E : Env) (a : Act) (w : World), AO fr Ψ P md ops Q w0 n g f listed E a → Cl w0 E w → wpAny P md ops Q (f + g) listed a w
  | 0, listed, E, a, w, h, hw => by rw [Nat.zero_add]; exact (h w hw).2
  | f + 1, listed, E, a, w, h, hw => by
    obtain ⟨hne, hA, hB⟩ := h w hw
    by_cases ht : ∃ j ∈ Region.ready md ops listed, n ≤ j
    · exact hB ht
    · have e : f + 1 + g = (f + g) + 1 := by omega
      rw [e]
      refine ⟨fun h0 => absurd h0 hne, fun j hj => ?_⟩
      have hjn : j < n := Nat.lt_of_not_le fun hh => ht ⟨j, hj, hh⟩
      obtain ⟨o, k, ho, hr, hk⟩ := hA j hj hjn
      exact hr.wpOp ho hw fun ω y hω hy => AO.any f _ _ _ y (hk ω hω) hy

/-- An operation of the head that may come up may be taken first. -/
theorem AO.first {n g i : Nat} {oi : Oper} {ki : Kind} (hi : ops[i]? = some oi) (hin : i < n) (hsel : ∀ (j : Nat) (o : Oper) cs b, ops[j]? = some o → o.op ≠ .select cs b)
    (hQ : ∀ c a v w, Q (.panic c) (a.put oi.dst v) w → Q (.panic c) a w)
    (hlate : ∀ (t : Nat) (ot : Oper), n ≤ t → ops[t]? = some ot → (∃ f, waitsT md ops f t i = true) ∨ lateF fr oi = true) (f : Nat) :
    ∀ (listed : Array Bool) (E : Env) (a : Act), Closed md ops listed →
      (∀ j oj, ops[j]? = some oj → j ≠ i → listed.getD j true = false → (∀ e ∈ oj.after, Region.binds md e = true → e.on ≠ i) → oi.apart ops oj = true) →
      i ∈ Region.ready md ops listed → Runs fr Ψ P ops w0 (E.only ops oi) oi a ki →
      (∀ ω, Fits Ψ P w0 (E.only ops oi) oi a ki ω → AO fr Ψ P md ops Q w0 n g f (listed.setIfInBounds i true) (ki.env oi ω E) (a.put oi.dst (ki.res oi ω))) → AO fr Ψ P md ops Q w0 n g (f + 1) listed E a := by
  -- at a tail's operation that comes up while this one is to come: this one asks nothing of the world
  have tail : ∀ (f : Nat) (listed : Array Bool) (E : Env) (a : Act) (w : World), Closed md ops listed → Cl w0 E w →
      (∀ j oj, ops[j]? = some oj → j ≠ i → listed.getD j true = false → (∀ e ∈ oj.after, Region.binds md e = true → e.on ≠ i) → oi.apart ops oj = true) →
      i ∈ Region.ready md ops listed → Runs fr Ψ P ops w0 (E.only ops oi) oi a ki →
      (∀ ω, Fits Ψ P w0 (E.only ops oi) oi a ki ω → AO fr Ψ P md ops Q w0 n g f (listed.setIfInBounds i true) (ki.env oi ω E) (a.put oi.dst (ki.res oi ω))) →
      (∃ j ∈ Region.ready md ops listed, n ≤ j) → wpAny P md ops Q (f + 1 + g) listed a w := by
    intro f listed E a w hcl hw hfree hr hy H ht
    obtain ⟨t, htr, htn⟩ := ht
    obtain ⟨_, ot, hot, hall⟩ := mem_ready.1 htr
    have hla : lateF fr oi = true := by
      rcases hlate t ot htn hot with ⟨f, hf⟩ | h
      · have h1 := waitsT_listed hcl f t hf fun ot' hot' => by
          rw [hot] at hot'; cases hot'; exact hall
        rw [getD_both (mem_ready.1 hr).1] at h1
        cases h1
      · exact h
    obtain ⟨v, henv, hres, hfit, hyl⟩ := late_yields hla hy (hw.only oi)
    have h0 := H ⟨0, v, .map #[] 0, true⟩ (hfit _)
    rw [henv, hres] at h0
    have h1 := AO.any f _ _ _ w h0 hw
    have e : f + 1 + g = (f + g) + 1 := by omega
    rw [e]
    exact wpAny_first hi hsel (fun c a w => hQ c a v w) (f + g) listed a w hfree hr hyl h1
  induction f with
  | zero =>
    intro listed E a hcl hfree hr hy H w hw
    refine ⟨fun h => (by rw [h] at hr; cases hr), fun j hj hjn => ?_, tail 0 listed E a w hcl hw hfree hr hy H⟩
    by_cases hji : j = i
    · subst hji
      exact ⟨oi, ki, hi, hy, H⟩
    · -- no other operation of the head is left
      exfalso
      have hx := hy.out hw
      obtain ⟨ω, w', hω, hw'⟩ := hx
      have := (H ω hω w' hw').1 j (ready_mono hj hji)
      omega
  | succ f ih =>
    intro listed E a hcl0 hfree hr hy H w hw
    refine ⟨fun h => (by rw [h] at hr; cases hr), fun j hj hjn => ?_, tail (f + 1) listed E a w hcl0 hw hfree hr hy H⟩
    by_cases hji : j = i
    · subst hji
      exact ⟨oi, ki, hi, hy, H⟩
    · have hx := hy.out hw
      obtain ⟨ω0, w1, hω0, hw1⟩ := hx
      obtain ⟨hjun, oj, hoj, hall⟩ := mem_ready.1 hj
      have hap : oi.apart ops oj = true := hfree j oj hoj hji hjun fun e he hb heq => by
        have h1 := hall e he hb
        rw [heq, getD_both (mem_ready.1 hr).1] at h1
        cases h1
      obtain ⟨ap1, ap2, ap3⟩ := Oper.apart_spec hap
      have hj' := ready_mono hj hji
      obtain ⟨oj', kj, hoj', hrj, _⟩ := (H ω0 hω0 w1 hw1).2.1 j hj' hjn
      rw [hoj] at hoj'
      cases hoj'
      rw [Env.only_env ki ω0 ap1, Runs.put (hsel j oj · · hoj) ap1] at hrj
      refine ⟨oj, kj, hoj, hrj, fun ωj hωj => ?_⟩
      refine ih (listed.setIfInBounds j true) (kj.env oj ωj E) (a.put oj.dst (kj.res oj ωj)) (hcl0.set hj) (fun k ok hk hki hkun hno => ?_) (ready_mono hr (Ne.symm hji)) ?_ fun ωi hωi => ?_
      · refine hfree k ok hk hki ?_ hno
        by_cases hjk : j = k
        · subst hjk
          exact hjun
        · rwa [getD_set_ne true hjk] at hkun
      · rw [Env.only_env kj ωj ap3, Runs.put (hsel i oi · · hi) ap3]
        exact hy
      · -- from what is known behind 'i', at any world of the class
        rw [Env.only_env kj ωj ap3, Fits.put (hsel i oi · · hi) ap3] at hωi
        have big : ∀ w', Cl w0 (ki.env oi ωi E) w' → AO fr Ψ P md ops Q w0 n g f ((listed.setIfInBounds i true).setIfInBounds j true) (kj.env oj ωj (ki.env oi ωi E)) ((a.put oi.dst (ki.res oi ωi)).put oj.dst (kj.res oj ωj)) := by
          intro w' hw'
          obtain ⟨oj', kj', hoj', hrj', hk'⟩ := (H ωi hωi w' hw').2.1 j hj' hjn
          rw [hoj] at hoj'
          cases hoj'
          rw [Env.only_env ki ωi ap1, Runs.put (hsel j oj · · hoj) ap1] at hrj'
          have hcl : Cl w0 (E.only ops oj) w' := by
            have := hw'.only (ops := ops) oj
            rwa [Env.only_env ki ωi ap1] at this
          have hkk : kj' = kj := Runs.det hrj' hrj hcl
          subst hkk
          exact hk' ωj (by rw [Env.only_env ki ωi ap1, Fits.put (hsel j oj · · hoj) ap1]; exact hωj)
        have conv : AO fr Ψ P md ops Q w0 n g f ((listed.setIfInBounds j true).setIfInBounds i true) (ki.env oi ωi (kj.env oj ωj E)) ((a.put oj.dst (kj.res oj ωj)).put oi.dst (ki.res oi ωi)) ↔
            AO fr Ψ P md ops Q w0 n g f ((listed.setIfInBounds i true).setIfInBounds j true) (kj.env oj ωj (ki.env oi ωi E)) ((a.put oi.dst (ki.res oi ωi)).put oj.dst (kj.res oj ωj)) := by
          rw [Kind.env_comm ki kj ωi ωj, Array.setIfInBounds_comm _ _ (fun e => hji e), ← Act.put_comm a _ _ ap2]
        rw [conv]
        -- the statement asks for every world of the class: take that world
        have sub : ∀ w', Cl w0 (kj.env oj ωj (ki.env oi ωi E)) w' → Cl w0 (ki.env oi ωi E) w' := fun w' hw' => hw'.sub fun s C u hs => Kind.env_le oj kj ωj s C u hs
        cases f with
        | zero => exact fun w' hw' => big w' (sub w' hw') w' hw'
        | succ f => exact fun w' hw' => big w' (sub w' hw') w' hw'

def wpLex (fr : Oper → Nat) (Ψ : Oper → Out → Prop) (P : Program) (ops : Array Oper) (Q : Exit → Act → World → Prop) (w0 : World) (tail : List Oper) : List Oper → Env → Act → Prop
  | [], E, a => ∀ x, Cl w0 E x → wpList P ops Q tail a x
  | o :: rest, E, a => (∃ x, Cl w0 E x) → ∃ k, Runs fr Ψ P ops w0 (E.only ops o) o a k ∧ ∀ ω, Fits Ψ P w0 (E.only ops o) o a k ω → wpLex fr Ψ P ops Q w0 tail rest (k.env o ω E) (a.put o.dst (k.res o ω))

theorem AO.lex {n g : Nat} {tail : List Oper} (hsel : Region.noSelect ops = true) (hQ : ∀ c a d v w, Q (.panic c) (a.put d v) w → Q (.panic c) a w) (hl : ordLate fr md ops n = true) (htail : ∀ j, tail[j]? = ops[n + j]?) (hg : tail.length = g) :
    ∀ (l : List Oper) (k : Nat) (listed : Array Bool) (E : Env) (a : Act), Closed md ops listed → (∀ j, j < l.length → l[j]? = ops[k + j]?) → k + l.length = n → ordHead md ops g l.length k listed = true →
    wpLex fr Ψ P ops Q w0 tail l E a → AO fr Ψ P md ops Q w0 n g l.length listed E a
  | [], k, listed, E, a, _, _, hk, hB, h => by
    have hkn : k = n := by simpa using hk
    subst hkn
    simp only [List.length_nil, ordHead, Bool.and_eq_true] at hB
    refine fun w hw => ⟨fun j hj => by simpa using List.all_eq_true.1 hB.2 j hj, ?_⟩
    subst hg
    exact wpAny_of_seq tail k listed a w htail hB.1 (h w hw)
  | o :: l, k, listed, E, a, hcl, hll, hk, hB, h => by
    simp only [List.length_cons] at hk
    simp only [List.length_cons, ordHead, Bool.and_eq_true] at hB
    have h0 : ops[k]? = some o := by simpa using (hll 0 (by simp)).symm
    by_cases hne : ∃ x, Cl w0 E x
    · obtain ⟨kd, hr, hrest⟩ := h hne
      refine AO.first h0 (by omega) (Region.noSelect_spec hsel) (fun c a v w => hQ c a o.dst v w) (fun t ot ht hot => ordLate_spec hl (by omega) h0 t ot ht hot) l.length listed E a hcl (Region.free_spec h0 hB.1.2) (by simpa using hB.1.1) hr fun ω hω => ?_
      exact AO.lex hsel hQ hl htail hg l (k + 1) _ _ _ (hcl.set (by simpa using hB.1.1)) (fun j hj => by have := hll (j + 1) (by simp; omega); simpa [Nat.add_assoc, Nat.add_comm 1 j] using this) (by omega) hB.2 (hrest ω hω)
    · exact fun w hw => absurd ⟨w, hw⟩ hne

theorem wp_region_ord {id : Nat} {a : Act} {w : World} {l : List Oper} (n : Nat) (hm : P.follows .mixedOrders = true) (hB : ordB fr .any l.toArray n = true)
    (hQ : ∀ c a d v w, Q (.panic c) (a.put d v) w → Q (.panic c) a w)
    (h : wpLex fr Ψ P l.toArray Q w.drew (l.drop n) (l.take n) Env.none a) : (Code.region id l.toArray true).wp P Q a w := by
  simp only [ordB, Bool.and_eq_true, decide_eq_true_eq] at hB
  obtain ⟨⟨⟨hsel, hn⟩, hl⟩, hh⟩ := hB
  have hn' : n ≤ l.length := by simpa using hn
  have htl : (l.take n).length = n := by simp; omega
  have hdl : (l.drop n).length = l.toArray.size - n := by simp
  have H := AO.lex (md := .any) (g := l.toArray.size - n) hsel hQ hl (fun j => by simp [List.getElem?_drop]) hdl (l.take n) 0 _ Env.none a (Closed.none _) (fun j hj => by
    have hj' : j < n := by rw [htl] at hj; exact hj
    simp [hj']) (by simpa using htl) (by rw [htl]; exact hh) h
  refine wp_region_any hm ?_
  have := AO.any _ _ _ _ w.drew H ⟨Below.refl _ _, fun s B o e => e.elim⟩
  rw [htl, show n + (l.toArray.size - n) = l.toArray.size by omega] at this
  exact this

/-! ### The moves of a walk -/
variable {tail rest : List Oper} {o : Oper} {a : Act}
theorem wpLex_nil (h : ∀ x, Cl w0 E x → wpList P ops Q tail a x) : wpLex fr Ψ P ops Q w0 tail [] E a := h
theorem wpLex_skip (hna : sp fr o = 0) (hw : Region.wanted o (yielded ops a.tmps) = false) (h : wpLex fr Ψ P ops Q w0 tail rest E (a.put o.dst undef)) : wpLex fr Ψ P ops Q w0 tail (o :: rest) E a :=
  fun _ => ⟨.val undef, ⟨hna, .inr ⟨hw, rfl⟩⟩, fun _ _ => h⟩
theorem wpLex_fix (hna : sp fr o = 0) (hw : Region.wanted o (yielded ops a.tmps) = true)
    (h : ∀ F : Env, Hid (∀ s B u, (o.looksAt ops).contains s = true → E s B u → F s B u) → ∀ R, GrowsUp R → Nonempty (GrE w0 F R) → ∀ K : Act → Prop, (∀ a', wpLex fr Ψ P ops Q w0 tail rest E a' → K a') → o.quiet P a (fun x => ∃ g : GrE w0 F R, x = g.1) K) :
    wpLex fr Ψ P ops Q w0 tail (o :: rest) E a := by
  rintro ⟨x0, hx0⟩
  replace h := h (E.only ops o) (fun s B u h1 h2 => ⟨h1, h2⟩)
  obtain ⟨v, hv, hk⟩ := h (fun _ => True) (fun _ _ _ _ => trivial) ⟨⟨x0, hx0.only o, trivial⟩⟩ (wpLex fr Ψ P ops Q w0 tail rest E) (fun _ h => h)
  refine ⟨.val v, ⟨hna, .inl ⟨hw, fun x hx => ?_⟩⟩, fun _ _ => hk⟩
  have h1 := hv x ⟨⟨x, hx, trivial⟩, rfl⟩
  obtain ⟨u, hu, _⟩ := h (fun y => Below x.heap.size x y) (fun y z hy hz => hy.trans (hz.mono hy.size)) ⟨⟨x, hx, Below.refl _ _⟩⟩ (fun _ => True) (fun _ _ => trivial)
  have h2 := hu x ⟨⟨x, hx, Below.refl _ _⟩, rfl⟩
  have : v = u := quietUpon_det h1 h2
  subst this
  exact quietUpon_mono (fun y ⟨g, hg⟩ => hg ▸ g.2.2) h2
theorem wpLex_blk (hna : sp fr o = 0) (hw : Region.wanted o (yielded ops a.tmps) = true) (obj : Obj) (hrun : ∀ x, Cl w0 (E.only ops o) x → (execOp a.eval o).run P x = .ok (.value (blkVal o x.heap.size)) (x.alloc obj))
    (h : ∀ B, w0.heap.size ≤ B → wpLex fr Ψ P ops Q w0 tail rest (E.upd o.dst B obj) (a.put o.dst (blkVal o B))) : wpLex fr Ψ P ops Q w0 tail (o :: rest) E a :=
  fun _ => ⟨.blk obj, ⟨hna, hw, hrun⟩, fun ω hω => h ω.B hω⟩
/-- A call: whatever it returns, a fact about it is known. -/
theorem wpLex_call (hs : sp fr o = 2) (hgd : o.guard = none) (f : FuncId) (args : Array Value) (hrun : ∀ x, Cl w0 (E.only ops o) x → (execOp a.eval o).run P x = .ok (.enter f args) x)
    (hc : ∀ x, Cl w0 (E.only ops o) x → Calls P f args x fun e y => ∃ ω : Out, e = .returned ω.v ∧ Below x.heap.size x y ∧ (ω.got = true → w0.heap.size ≤ ω.B ∧ y.heap[ω.B]? = some ω.obj) ∧ Ψ o ω)
    (h : ∀ ω : Out, Ψ o ω → (ω.got = true → w0.heap.size ≤ ω.B) → wpLex fr Ψ P ops Q w0 tail rest (if ω.got then E.upd o.dst ω.B ω.obj else E) (a.put o.dst ω.v)) : wpLex fr Ψ P ops Q w0 tail (o :: rest) E a :=
  fun _ => ⟨.call, ⟨hs, by simp [Region.wanted, hgd], fun x hx => ⟨f, args, hrun x hx, hc x hx⟩⟩, fun ω hω => h ω hω.1 hω.2⟩
/-- What asks nothing of the world, by its values. -/
theorem wpLex_free (hs : sp fr o = 3) (hgd : o.guard = none) (v : Value) (hrun : ∀ x, (execOp a.eval o).run P x = .ok (.value v) x) (h : wpLex fr Ψ P ops Q w0 tail rest E (a.put o.dst v)) : wpLex fr Ψ P ops Q w0 tail (o :: rest) E a :=
  fun _ => ⟨.free v, ⟨hs, by simp [Region.wanted, hgd], hrun⟩, fun _ _ => h⟩
/-- An append onto a row of one place that is full: whatever row comes out. -/
theorem wpLex_app (hgd : o.guard = none) (s x : Operand) (t tx : TypeId) (ho : o.op = .call { callee := .builtin .append, args := #[s, x], argTypes := #[t, tx] })
    (base : Nat) (e : TypeId) (i : TypeInfo) (z : Value) (bytes : Nat) (ht : P.underlying t = some (.slice e)) (hi : P.info? e = some i) (hz : i.zero = some z) (hsize : i.size = 1) (hby : i.bytes = bytes) (hzs : z.cells.size = 1)
    (B0 : Nat) (u : Value) (hv : a.eval s = .slice (some ⟨B0, 0, none⟩) 1 1) (hB0 : w0.heap.size ≤ B0) (hbase : base ≤ w0.heap.size) (hlit : ∀ x, Cl w0 (E.only ops o) x → x.heap[B0]? = some (.cells #[u] e (0, 0)))
    (X : Value) (m : Nat) (news : List Value) (hX : a.eval x = X) (hs : ∀ x, Cl w0 (E.only ops o) x → Src P 1 tx X m news x) (h63 : 1 + m ≤ maxLen) (hbytes : (1 + m) * bytes ≤ 140737488355328)
    (h : ∀ g cap obj, w0.heap.size ≤ g → (∀ y : World, y.heap[g]? = some obj → y.ownsRow base e 1 (.slice (some ⟨g, 0, none⟩) (1 + m) cap) (1 + m) (u :: news)) → wpLex fr Ψ P ops Q w0 tail rest (E.upd o.dst g obj) (a.put o.dst (.slice (some ⟨g, 0, none⟩) (1 + m) cap))) :
    wpLex fr Ψ P ops Q w0 tail (o :: rest) E a := by
  subst hby
  have hw : Region.wanted o (yielded ops a.tmps) = true := by simp [Region.wanted, hgd]
  have hap : sp fr o = 1 := by unfold sp isApp; rw [ho]; rfl
  have hrun : ∀ x, Cl w0 (E.only ops o) x → ∃ g cap obj w', (execOp a.eval o).run P x = .ok (.value (.slice (some ⟨g, 0, none⟩) (1 + m) cap)) w' ∧ Below x.heap.size x w' ∧ w0.heap.size ≤ g ∧ w'.heap[g]? = some obj ∧
      (∀ y : World, y.heap[g]? = some obj → y.ownsRow base e 1 (.slice (some ⟨g, 0, none⟩) (1 + m) cap) (1 + m) (u :: news)) := by
    intro y hy
    have hl := hlit y hy
    have hy0 := hy.below.size
    have hS := hs y hy
    by_cases hm : m = 0
    · subst hm
      have hn : news = [] := List.eq_nil_of_length_eq_zero (by simpa using hS.newsLen)
      subst hn
      refine ⟨B0, 1, _, y, ?_, Below.refl _ _, hB0, hl, fun y' hy' => ⟨rfl, .inr ⟨B0, 1, #[u], rfl, by omega, hy', Nat.le_refl _, by unfold maxLen; omega, rfl, rfl⟩⟩⟩
      have hr := run_append_nothing (P := P) y t tx o.type e i ht hi (some ⟨B0, 0, none⟩) 1 1 (Nat.le_refl _) X (hsize ▸ hS)
      unfold execOp
      simp only [ho, resolve, invoke, builtin, Sem.run_bind, Sem.run_pure, Result.andThen_ok, List.map_toArray, List.map_cons, List.map_nil, hv, hX, hr]
    · have hold : (Builtin.firstCells i.size 1 (.slice (some ⟨B0, 0, none⟩) 1 1)).run P y.drew = .ok [u].toArray y.drew := by
        refine run_firstCells_some (P := P) y.drew i.size 1 ⟨B0, 0, none⟩ 1 1 [u] (by rw [hsize]; rfl) fun j v hj => ?_
        have hj0 : j = 0 := by
          have := (List.getElem?_eq_some_iff.1 hj).1
          simp at this; exact this
        subst hj0
        simp at hj
        subst hj
        have := cell_of_row y B0 0 #[u] e (0, 0) hl
        simpa [Addr.add] using this
      have hr := run_append_grow_src (P := P) y t tx o.type e i z ht hi hz (some ⟨B0, 0, none⟩) 1 1 [u] hold X m news (hsize ▸ hS) (by omega) (by unfold maxLen at h63; omega) (growslice_fits (by omega) hbytes)
      have hex : (execOp a.eval o).run P y = .ok (.value (.slice (some ⟨y.heap.size, 0, none⟩) (1 + m) (grownCap y (1 + m) 1 e))) (y.drew.alloc (.cells (([u] ++ news).toArray ++ Builtin.zeroCells z.cells (grownCap y (1 + m) 1 e - (1 + m))) e)) := by
        unfold execOp
        simp only [ho, resolve, invoke, builtin, Sem.run_bind, Sem.run_pure, Result.andThen_ok, List.map_toArray, List.map_cons, List.map_nil, hv, hX, hr]
      refine ⟨y.heap.size, _, _, _, hex, ((Below.refl y.heap.size y).drew).alloc (Nat.le_refl _) _, hy0, heap_alloc_new y.drew _, fun y' hy' => ⟨?_, .inr ⟨y.heap.size, _, _, rfl, by omega, hy', grownCap_ge y (1 + m) 1 e, grownCap_le_maxLen y (1 + m) 1 e h63, ?_, ?_⟩⟩⟩
      · have := hS.newsLen; simp at this ⊢; omega
      · have h1 := grownCap_ge y (1 + m) 1 e
        have h2 := hS.newsLen
        simp only [Array.size_append, List.size_toArray, List.length_append, List.length_cons, List.length_nil, size_zeroCells, hzs]
        omega
      · have h2 := hS.newsLen
        simp only [Array.toList_append]
        rw [List.take_append_of_le_length (by simp; omega)]
        rw [List.take_of_length_le (by simp; omega)]
        rfl
  intro hne
  refine ⟨.app, ⟨hap, hw, fun x hx => ?_⟩, fun ω hω => ?_⟩
  · obtain ⟨g, cap, obj, w', h1, h2, h3, h4, _⟩ := hrun x hx
    exact ⟨_, w', g, obj, h1, h2, h3, rfl, h4⟩
  · obtain ⟨hB, hv0, x, y, hx, hex, hyB⟩ := hω
    obtain ⟨g, cap, obj, w', h1, h2, h3, h4, h5⟩ := hrun x hx
    rw [h1] at hex
    simp only [Result.ok.injEq, Next.value.injEq] at hex
    obtain ⟨e1, rfl⟩ := hex
    obtain ⟨ωB, ωv, ωo⟩ := ω
    simp only at e1 hv0 hyB
    subst e1
    have e2 : g = ωB := by simpa [Value.ownBlock] using hv0
    subst e2
    rw [h4] at hyB
    injection hyB with e3
    subst e3
    exact h g cap obj h3 h5
end
end Go.Proofs.Ytdmiljaiglaacaa.OrdC

/- The walks of layer 29: a reader of rows. -/
namespace Go.Proofs.Ytdmiljaiglaacaa
open Go.RowKit Go.Maps

/-- What is known of a clone, wherever it lies. -/
def RI (l : List Int) (ω : OrdC.Out) : Prop :=
  (∃ A c, ω.v = .slice A l.length c) ∧ (ω.got = false → ω.v = .slice none 0 0 ∧ l = []) ∧ (ω.got = true → ∀ (y : World) (base : Nat), base ≤ ω.B → y.heap[ω.B]? = some ω.obj → IRow y base ω.v l)
theorem irow_out {w : World} {base : Nat} {v : Value} {l : List Int} (h : IRow w base v l) : ∃ ω : OrdC.Out, v = ω.v ∧ (ω.got = true → base ≤ ω.B ∧ w.heap[ω.B]? = some ω.obj) ∧ RI l ω := by
  obtain ⟨A, c, e, _⟩ := h.reads
  rcases h.2 with ⟨rfl, hn⟩ | ⟨g, cap, cur, rfl, h1, h2, h3⟩
  · exact ⟨⟨0, .slice none 0 0, .map #[] 0, false⟩, rfl, (fun h => by cases h), ⟨A, c, e⟩, fun _ => ⟨rfl, List.eq_nil_of_length_eq_zero hn⟩, (fun h => by cases h)⟩
  · exact ⟨⟨g, _, .cells cur 3 (0, 0), true⟩, rfl, fun _ => ⟨h1, h2⟩, ⟨A, c, e⟩, (fun h => by cases h), fun _ y b' hb hy => ⟨h.1, .inr ⟨g, cap, cur, rfl, hb, hy, h3⟩⟩⟩
theorem iclone_told {w0 x : World} (hb : Below w0.heap.size w0 x) {base : Nat} {v : Value} {l : List Int} (h : ISub w0 base v l) (hn : l.length ≤ 1000000000) :
    Calls Try.prog 33 #[v] x fun e y => ∃ ω : OrdC.Out, e = .returned ω.v ∧ Below x.heap.size x y ∧ (ω.got = true → w0.heap.size ≤ ω.B ∧ y.heap[ω.B]? = some ω.obj) ∧ RI l ω := by
  refine ((h.grow hb).clone hn).mono ?_
  rintro e y ⟨u, rfl, hr, hb2⟩
  obtain ⟨ω, rfl, h2, h3⟩ := irow_out hr
  exact ⟨ω, rfl, hb2, fun hg => ⟨Nat.le_trans hb.size (h2 hg).1, (h2 hg).2⟩, h3⟩
/-- Rows of numbers that are read. -/
def NRows (w : World) (A : Option Addr) (c : Nat) (L : List (List Int)) : Prop :=
  L.length ≤ c ∧ (0 < L.length → ∃ g o, A = some ⟨g, o, none⟩ ∧ g < w.heap.size ∧ ∀ (j : Nat) l, L[j]? = some l → ∃ u, w.cell? ⟨g, o + j, none⟩ = some u ∧ ISub w 0 u l)
theorem NRows.grow {w w' : World} {A : Option Addr} {c : Nat} {L : List (List Int)} (h : NRows w A c L) (k : Below w.heap.size w w') : NRows w' A c L :=
  ⟨h.1, fun hp => by
    obtain ⟨g, o, e, hg, hc⟩ := h.2 hp
    refine ⟨g, o, e, Nat.lt_of_lt_of_le hg k.size, fun j x hx => ?_⟩
    obtain ⟨u, h1, h2⟩ := hc j x hx
    exact ⟨u, (World.cell?_of_block (k.block g hg)).trans h1, h2.grow k⟩⟩
theorem NRows.nil (w : World) (A : Option Addr) (c : Nat) : NRows w A c [] := ⟨Nat.zero_le _, fun h => by simp at h⟩
def rowsOf (L : List (List Int)) (i : Nat) : Nat → List Int := fun t => if t < i then L.getD t [] else []
/-- What a reader comes to. -/
def ReaderOk (x : World) (tp : Option Addr) (L : List (List Int)) (e : Ending) (y : World) : Prop :=
  e = .returned (.pointer (some ⟨x.heap.size, 0, none⟩)) ∧ (∃ us, PortS y x.heap.size x.heap.size (.pointer tp) us (fun t => if t < 64 then L.getD t [] else []) true 0) ∧ Below x.heap.size x y
set_option maxRecDepth 100000 in
set_option maxHeartbeats 4000000 in
theorem reader_any (tp : Option Addr) (A : Option Addr) (c : Nat) (L : List (List Int)) (x : World) (hx : NRows x A c L) (hA : A = none → c = 0) (hL : L.length ≤ 1000000) (hl : ∀ l ∈ L, l.length ≤ 1000000) : Calls Try.prog 12 #[.pointer tp, .slice A L.length c] x (ReaderOk x tp L) := by
  have HX := Lib.hid hx
  have HLN := Lib.hid hl
  have hp := port_made (y := x.alloc (.cells ((Try.zeroCells66.setIfInBounds 0 (.pointer tp)).setIfInBounds 65 (.bool true)) 66)) (b := x.heap.size) (.pointer tp) true (heap_alloc_new _ _)
  have P0 := Lib.hid hp
  have k0 := Lib.hid ((Below.refl x.heap.size x).alloc (Nat.le_refl _) (.cells ((Try.zeroCells66.setIfInBounds 0 (.pointer tp)).setIfInBounds 65 (.bool true)) 66))
  clear hp hx hl
  go_enter Try.func12, Try.ntmps12
  go_upto_region 2 with fail
  generalize x.alloc (.cells ((Try.zeroCells66.setIfInBounds 0 (.pointer tp)).setIfInBounds 65 (.bool true)) 66) = W at *
  obtain ⟨k, hk⟩ : ∃ k : Nat, k = min L.length 64 := ⟨_, rfl⟩
  have hmin : min (L.length : Int) 64 = (k : Int) := by omega
  have hkc : k ≤ c := Nat.le_trans (by omega) HX.out.1
  have HKK := Lib.hid hk
  clear hk
  go_wp2_with fail
  go_loopw [17] (fun t wr => ∃ (i : Nat) (us : Nat → Value), i ≤ k ∧ t = .int .i64 i ∧ PortS wr x.heap.size x.heap.size (.pointer tp) us (rowsOf L i) true 0 ∧ (∀ j, i ≤ j → us j = .slice none 0 0) ∧ Below x.heap.size x wr) (fun t _ => k - (intOf t).toNat)
  case atStart => exact ⟨0, _, Nat.zero_le _, rfl, P0.out, fun _ _ => rfl, k0.out⟩
  case round =>
    obtain ⟨i, us, hil, rfl, hport, hnil, hB⟩ := hrel
    have NIL := Lib.hid hnil
    have MP := Lib.hid hport
    have MB := Lib.hid hB
    clear hport hB hnil
    by_cases hi : i < k
    · have p1 : decide ((i : Int) < (k : Int)) = true := decide_eq_true (by omega)
      have p2 : decide (i < k) = true := decide_eq_true hi
      have hi64 : i < 64 := by have := HKK.out; omega
      have hiL : i < L.length := by have := HKK.out; omega
      have i1 : (i : Int) < 64 := by omega
      have i2 : decide (i < 64) = true := decide_eq_true hi64
      obtain ⟨g, o, rfl, hg, hcl⟩ := (HX.out.grow MB.out).2 (by omega)
      obtain ⟨u, c1, hsu⟩ := hcl i _ (List.getElem?_eq_getElem hiL)
      have HSU := Lib.hid (ISub.grow (w1 := wr.drew) hsu (Below.refl _ _).drew)
      have hln : (L[i]).length ≤ 1000000000 := Nat.le_trans (HLN.out _ (List.getElem_mem hiL)) (by omega)
      have HTELL := Lib.hid (fun (y : World) (hy : Below wr.drew.heap.size wr.drew y) => iclone_told hy HSU.out hln)
      have hgd : L.getD i [] = L[i] := by rw [List.getD, List.getElem?_eq_getElem hiL]; rfl
      have HGD := Lib.hid hgd
      clear hsu hgd HSU hln
      generalize L[i] = l at HTELL HGD
      go_upto_region 5 with fail
      refine OrdC.wp_region_ord (fr := fun o => if o.dst == some 25 then 2 else 0) (Ψ := fun o ω => RI l ω) 7 (by kernel_rfl) (by kernel_rfl) (fun _ _ d _ _ h => by cases d <;> exact h) ?_
      try simp only [List.take_succ_cons, List.take_zero, List.drop_succ_cons, List.drop_zero]
      repeat (first | (refine OrdC.wpLex_skip rfl rfl ?_; simp only [Act.put, List.setIfInBounds_toArray, List.set_cons_zero, List.set_cons_succ]) | (refine OrdC.wpLex_fix rfl rfl ?_; intro F hF R hR hne K hK; go_big_quiet_op; first | (go_big_quiet_on; clear hne hR R hF F) | (apply Exists.intro; refine ⟨fun g => ?_, ?_⟩; (((fail))); go_big_quiet_on; clear hne hR R hF F)) | (apply OrdC.wpLex_blk rfl rfl; (focus (intro x hx; go_simp; exact ⟨rfl, rfl⟩)); intro B hB; simp only [Act.put, blkVal, List.setIfInBounds_toArray, List.set_cons_zero, List.set_cons_succ]))
      refine OrdC.wpLex_call rfl rfl 33 #[u] (fun y hy => by go_simp) (fun y hy => HTELL.out y hy.below) ?_
      intro ω hω hωB
      simp only [Act.put, List.setIfInBounds_toArray, List.set_cons_zero, List.set_cons_succ]
      try simp only [List.take_succ_cons, List.take_zero, List.drop_succ_cons, List.drop_zero]
      repeat (first | (refine OrdC.wpLex_skip rfl rfl ?_; simp only [Act.put, List.setIfInBounds_toArray, List.set_cons_zero, List.set_cons_succ]) | (refine OrdC.wpLex_fix rfl rfl ?_; intro F hF R hR hne K hK; go_big_quiet_op; first | (go_big_quiet_on; clear hne hR R hF F) | (apply Exists.intro; refine ⟨fun g => ?_, ?_⟩; (((fail))); go_big_quiet_on; clear hne hR R hF F)) | (apply OrdC.wpLex_blk rfl rfl; (focus (intro x hx; go_simp; exact ⟨rfl, rfl⟩)); intro B hB; simp only [Act.put, blkVal, List.setIfInBounds_toArray, List.set_cons_zero, List.set_cons_succ]))
      refine OrdC.wpLex_nil ?_
      intro w1 hw1
      obtain ⟨⟨A1, c1', e1⟩, hω1, hω2⟩ := hω
      have hb1 : Below wr.heap.size wr w1 := (Below.refl _ _).drew.trans hw1.below
      have hrow : IRow w1 wr.heap.size ω.v l := by
        cases hgt : ω.got with
        | true =>
          have h1 := hw1.fact 25 ω.B ω.obj (by rw [if_pos hgt]; exact .inr ⟨rfl, rfl, rfl⟩)
          exact hω2 hgt w1 _ h1.1 h1.2
        | false =>
          obtain ⟨h1, rfl⟩ := hω1 hgt
          rw [h1]
          exact IRow.nil _ _
      rw [e1] at hrow ⊢
      have P1 := MP.out.grow hb1
      have hbox := P1.box.row hi64
      have hfz := P1.box.frozen (1 + i)
      have hbz1 := P1.box.lt
      have hnr : rowsOf L i i = [] := if_neg (Nat.lt_irrefl i)
      have hui := NIL.out i (Nat.le_refl i)
      have hp : Hop wr w1 (us i).ownBlock (Value.slice A1 l.length c1').ownBlock := by
        refine ⟨grownBy_below hb1 _, ?_⟩
        rw [hui]
        cases hA1 : (Value.slice A1 l.length c1').ownBlock with
        | none => exact .inl rfl
        | some g => exact .inr ⟨g, hrow.base_le hA1, rfl⟩
      rw [hui] at hbox
      have P2 := Lib.hid (MP.out.put hi64 (ys := l) (IOff.of (by
        have h1 := hrow
        refine ⟨h1.1, ?_⟩
        rcases h1.2 with h2 | ⟨g, cap, cur, h2, h3, h4⟩
        · exact .inl h2
        · exact .inr ⟨g, cap, cur, h2, Nat.le_trans MB.out.size h3, h4⟩)) hp)
      have B2 := Lib.hid (show Below x.heap.size x (w1.setCell ⟨x.heap.size, 1 + i, none⟩ (.slice A1 l.length c1')) from (MB.out.trans (hb1.mono MB.out.size)).setCell (p := ⟨x.heap.size, 1 + i, none⟩) (Nat.le_refl _) _)
      clear hrow hp P1 hb1 hw1 hω1 hω2
      go_wp2_with fail
      go_roundw
      case rel =>
        refine ⟨i + 1, (fun k => if k = i then (Value.slice A1 l.length c1') else us k), by omega, by go_num, ?_, fun j hj => ?_, B2.out⟩
        rotate_left
        · show (if j = i then _ else us j) = _
          rw [if_neg (by omega)]
          exact NIL.out j (by omega)
        · have e : (fun k => if k = i then l else rowsOf L i k) = rowsOf L (i + 1) := by
            funext k
            unfold rowsOf
            by_cases h : k = i
            · subst h
              rw [if_pos rfl, if_pos (by omega), HGD.out]
            · rw [if_neg h]
              by_cases h2 : k < i
              · rw [if_pos h2, if_pos (by omega)]
              · rw [if_neg h2, if_neg (by omega)]
          rw [← e]
          exact P2.out
      case measure => simp [intOf]; omega
    · obtain rfl : i = k := by omega
      have p1 : decide ((i : Int) < (i : Int)) = false := decide_eq_false (by omega)
      have HP := Lib.hid (show PortS wr x.heap.size x.heap.size (.pointer tp) us (fun t => if t < 64 then L.getD t [] else []) true 0 from by
        have e : ∀ t, t < 64 → rowsOf L i t = L.getD t [] := fun t ht => by
          unfold rowsOf
          by_cases h : t < i
          · rw [if_pos h]
          · rw [if_neg h, List.getD, List.getElem?_eq_none (by have := HKK.out; omega)]
            rfl
        refine ⟨MP.out.box, fun t ht => ?_, MP.out.apart, MP.out.hb⟩
        have := MP.out.rows t ht
        rw [e t ht] at this
        show IOff wr x.heap.size (us t) (if t < 64 then L.getD t [] else [])
        rw [if_pos ht]
        exact this)
      go_wp2_with fail
      go_ret
      exact ⟨rfl, ⟨us, HP.out⟩, MB.out⟩
end Go.Proofs.Ytdmiljaiglaacaa
