/- Joined texts: PortA, PortB, PortC, PortD, MapV, TabMap, WalksA, WalksB, WalksC. -/
import Derived.Test.YtdmiljaiglaacaaPk2
import Derived.LoopN
import Derived.Lib.SliceRun
import Derived.BigRegion
import Derived.Deep.RegionLaw
import Derived.Maps.OwnSet
import Derived.DeepKeys4
import Derived.Test.YtdmiljaiglaacaaPk1
/- The walks of layer 29: whether it reads, its error, a row's end and its next number. -/
namespace Go.Proofs.Ytdmiljaiglaacaa
open Go.RowKit

/-- At a step of a region that draws its order: append onto a row whose head may have been taken. -/
theorem step_append_off {P : Program} {w : World} {ops : Array Oper} {o : Oper} {a : Act} {K : Act → World → Prop} {Q : Exit → Act → World → Prop} {E : Prop} (hgd : o.guard = none) (s x : Operand) (t tx : TypeId)
    (ho : o.op = .call { callee := .builtin .append, args := #[s, x], argTypes := #[t, tx] })
    (base : Nat) (e : TypeId) (i : TypeInfo) (z : Value) (size bytes : Nat) (ht : P.underlying t = some (.slice e)) (hi : P.info? e = some i) (hz : i.zero = some z)
    (hsize : i.size = size) (hby : i.bytes = bytes) (hzs : z.cells.size = size)
    (v : Value) (n : Nat) (xs : List Value) (hv : a.eval s = v) (hown : OffRow w base e size v n xs)
    (X : Value) (m : Nat) (news : List Value) (hX : a.eval x = X)
    (h : ∀ v' w', OffRow w' base e size v' (n + m) (xs ++ news) → Hop w w' v.ownBlock v'.ownBlock → K (a.put o.dst v') w')
    (hs : Src P size tx X m news w) (h63 : n + m ≤ maxLen) (hbytes : (n + m) * bytes ≤ 140737488355328) (hbase : base ≤ w.heap.size) :
    if Region.wanted o (yielded ops a.tmps) = true then Oper.wp P o a w K Q else E := by
  have hw : Region.wanted o (yielded ops a.tmps) = true := by simp [Region.wanted, hgd]
  rw [if_pos hw]
  obtain ⟨v', w', hr, h2, h3⟩ := run_append_off w t tx o.type e base i z size bytes ht hi hz hsize hby hzs v n xs hown X m news hs h63 hbytes hbase
  unfold Oper.wp execOp
  simp only [ho, resolve, invoke, builtin, Sem.run_bind, Sem.run_pure, Result.andThen_ok, List.map_toArray, List.map_cons, List.map_nil, hv, hX, hr]
  exact h v' w' h2 h3
theorem step_appO {w : World} {ops : Array Oper} {o : Oper} {a : Act} {K : Act → World → Prop} {Q : Exit → Act → World → Prop} {E : Prop} (hgd : o.guard = none) (s x : Operand)
    (ho : o.op = .call { callee := .builtin .append, args := #[s, x], argTypes := #[45, 45] })
    (base : Nat) (v : Value) (xs : List Int) (hv : a.eval s = v) (hown : IOff w base v xs) (X : Value) (ys : List Int) (hX : a.eval x = X)
    (hs : Src Try.prog 1 45 X ys.length (ic ys) w) (hn : xs.length + ys.length ≤ 1000000000000) (hbase : base ≤ w.heap.size)
    (h : ∀ v' w', IOff w' base v' (xs ++ ys) → Hop w w' v.ownBlock v'.ownBlock → K (a.put o.dst v') w') :
    if Region.wanted o (yielded ops a.tmps) = true then Oper.wp Try.prog o a w K Q else E := by
  obtain ⟨i0, hi, hz0, hz1, hz2⟩ := info_parts infoInt
  refine step_append_off hgd s x 45 45 ho base 3 i0 _ 1 8 Try.underlying45 hi hz0 hz1 hz2 rfl v _ _ hv hown X ys.length (ic ys) hX (fun v' w' h1 h2 => h v' w' (IOff.app h1 rfl) h2) hs ?_ ?_ hbase
  · unfold maxLen; omega
  · omega

/-- What stays: blocks apart from the port's. -/
structure Frm (x y : World) (base b : Nat) (us us' : Nat → Value) (o : Option Nat) : Prop where
  below : Below base x y
  off : ∀ g, g < x.heap.size → Off us b g → Off us' b g
  same : ∀ g, g < x.heap.size → Off us b g → some g ≠ o → y.heap[g]? = x.heap[g]?
theorem Frm.refl (x : World) (base b : Nat) (us : Nat → Value) (o : Option Nat) : Frm x x base b us us o := ⟨Below.refl _ _, fun _ _ h => h, fun _ _ _ _ => rfl⟩
theorem Frm.trans {x y z : World} {base b : Nat} {us us' us'' : Nat → Value} {o : Option Nat} (h : Frm x y base b us us' o) (k : Frm y z base b us' us'' o) : Frm x z base b us us'' o :=
  ⟨h.below.trans k.below, fun g hg ho => k.off g (Nat.lt_of_lt_of_le hg h.below.size) (h.off g hg ho), fun g hg ho hne => (k.same g (Nat.lt_of_lt_of_le hg h.below.size) (h.off g hg ho) hne).trans (h.same g hg ho hne)⟩
theorem Frm.grow {x y : World} {base b : Nat} {us : Nat → Value} {o : Option Nat} (hb : base ≤ x.heap.size) (k : Below x.heap.size x y) : Frm x y base b us us o :=
  ⟨k.mono hb, fun _ _ h => h, fun g hg _ _ => k.block g hg⟩
theorem Frm.box {x y : World} {base b : Nat} {us : Nat → Value} {o : Option Nat} (hb : base ≤ b) (hbx : base ≤ x.heap.size) (k : x.grownBy y (some b)) : Frm x y base b us us o :=
  ⟨(Below.refl base x).grown k hbx (fun j hj => by cases hj; exact hb), fun _ _ h => h, fun g hg ho _ => k.block g hg (fun e => ho.1 (Option.some.inj e))⟩
theorem Frm.lift {x y : World} {base b : Nat} {us us' : Nat → Value} {o : Option Nat} (h : Frm x y base b us us' none) : Frm x y base b us us' o :=
  ⟨h.below, h.off, fun g hg ho _ => h.same g hg ho (by simp)⟩
/-- The first error stays. -/
def fe (e e' : Int) : Int := if e = 0 then e' else e

section
variable {x : World} {base b : Nat} {tp : Value} {us : Nat → Value} {R : Nat → List Int} {rd : Bool} {e : Int}
theorem reads_any (h : PortS x base b tp us R rd e) : Calls Try.prog 18 #[.pointer (some ⟨b, 0, none⟩)] x fun ex y => ex = .returned (.bool rd) ∧ y = x := by
  have c1 := h.box.isr
  have hz := h.box.lt
  clear h
  cases rd <;>
  · go_enter Try.func18, Try.ntmps18
    go_wp2
    go_ret
    exact ⟨rfl, rfl⟩
theorem err_any (h : PortS x base b tp us R rd e) : Calls Try.prog 14 #[.pointer (some ⟨b, 0, none⟩)] x fun ex y => ex = .returned (.int .i64 e) ∧ y = x := by
  have c1 := h.box.err
  have hz := h.box.lt
  clear h
  go_enter Try.func14, Try.ntmps14
  go_wp2
  go_ret
  exact ⟨rfl, rfl⟩
theorem fail_any (e' : Int) (h : PortS x base b tp us R rd e) : Calls Try.prog 36 #[.pointer (some ⟨b, 0, none⟩), .int .i64 e'] x fun ex y => ex = .returned (.tuple #[]) ∧ PortS y base b tp us R rd (fe e e') ∧ x.grownBy y (some b) := by
  have H := Lib.hid h
  have c1 := h.box.err
  have hz := h.box.lt
  have hf := h.box.frozen 66
  clear h
  unfold fe
  by_cases h0 : e = 0
  · rw [if_pos h0]
    subst h0
    go_enter Try.func36, Try.ntmps36
    go_wp2
    go_end0
    exact ⟨rfl, H.out.err e', H.out.box.turned 66 _⟩
  · rw [if_neg h0]
    have p0 : (e == 0) = false := by simpa using h0
    clear h0
    go_enter Try.func36, Try.ntmps36
    go_wp2
    go_end0
    exact ⟨rfl, H.out, World.grownBy.refl _ _⟩
/-- Whether something may go through. -/
def pe (e row : Int) (there : Bool) : Int := if row < 0 ∨ 64 ≤ row ∨ there = false then fe e 1 else e
theorem open_any (row : Int) (there : Bool) (h : PortS x base b tp us R rd e) : Calls Try.prog 37 #[.pointer (some ⟨b, 0, none⟩), .int .i64 row, .bool there] x fun ex y => ex = .returned (.bool (pe e row there == 0)) ∧ PortS y base b tp us R rd (pe e row there) ∧ x.grownBy y (some b) := by
  have H := Lib.hid h
  have HF := Lib.hid (fail_any 1 h)
  have bad : (row < 0 ∨ 64 ≤ row ∨ there = false) → Calls Try.prog 37 #[.pointer (some ⟨b, 0, none⟩), .int .i64 row, .bool there] x fun ex y => ex = .returned (.bool (fe e 1 == 0)) ∧ PortS y base b tp us R rd (fe e 1) ∧ x.grownBy y (some b) := by
    intro hb
    have go : ∀ (p : decide (row < 0) = true ∨ (decide (row < 0) = false ∧ decide (64 ≤ row) = true) ∨ (decide (row < 0) = false ∧ decide (64 ≤ row) = false ∧ there = false)), Calls Try.prog 37 #[.pointer (some ⟨b, 0, none⟩), .int .i64 row, .bool there] x fun ex y => ex = .returned (.bool (fe e 1 == 0)) ∧ PortS y base b tp us R rd (fe e 1) ∧ x.grownBy y (some b) := by
      clear h hb
      rintro (p | ⟨p, q⟩ | ⟨p, q, rfl⟩)
      all_goals
        go_enter Try.func37, Try.ntmps37
        go_wp2_with fail
        refine HF.out.mono ?_
        rintro ex y ⟨rfl, h1, hg⟩
        have H1 := Lib.hid h1
        have G1 := Lib.hid hg
        have HE := Lib.hid (err_any h1)
        clear h1 hg
        go_wp2_with fail
        refine HE.out.mono ?_
        rintro ex y ⟨rfl, rfl⟩
        go_wp2
        go_ret
        exact ⟨rfl, H1.out, G1.out⟩
    refine go ?_
    by_cases h1 : row < 0
    · exact .inl (decide_eq_true h1)
    · by_cases h2 : 64 ≤ row
      · exact .inr (.inl ⟨decide_eq_false h1, decide_eq_true h2⟩)
      · exact .inr (.inr ⟨decide_eq_false h1, decide_eq_false h2, by rcases hb with hb | hb | hb <;> first | exact hb | omega⟩)
  unfold pe
  by_cases hb : row < 0 ∨ 64 ≤ row ∨ there = false
  · rw [if_pos hb]
    exact bad hb
  · rw [if_neg hb]
    have p1 : decide (row < 0) = false := decide_eq_false (by omega)
    have p2 : decide (64 ≤ row) = false := decide_eq_false (by omega)
    have p3 : there = true := by
      cases there
      · exact absurd (.inr (.inr rfl)) hb
      · rfl
    subst p3
    have HE := Lib.hid (err_any h)
    clear h HF bad hb
    go_enter Try.func37, Try.ntmps37
    go_wp2_with fail
    refine HE.out.mono ?_
    rintro ex y ⟨rfl, rfl⟩
    go_wp2
    go_ret
    exact ⟨rfl, H.out, World.grownBy.refl _ _⟩
end
end Go.Proofs.Ytdmiljaiglaacaa

/- The walks of layer 29: a number at a row's end, and a row's next number. -/
namespace Go.Proofs.Ytdmiljaiglaacaa
open Go.RowKit

section
variable {x : World} {base b : Nat} {tp : Value} {us : Nat → Value} {R : Nat → List Int} {rd : Bool} {e : Int}
/-- What a port comes to. -/
def PortTo (x : World) (base b : Nat) (tp : Value) (us : Nat → Value) (R : Nat → List Int) (rd : Bool) (e : Int) (o : Option Nat) (y : World) : Prop :=
  ∃ us', PortS y base b tp us' R rd e ∧ ∃ us0, us0 = us ∧ Frm x y base b us0 us' o
theorem PortS.putFrm {y : World} (h : PortS x base b tp us R rd e) {t : Nat} (ht : t < 64) {v : Value} {ys : List Int} (hr : IOff y base v ys) (hp : Hop x y (us t).ownBlock v.ownBlock) :
    Frm x (y.setCell ⟨b, 1 + t, none⟩ v) base b us (fun k => if k = t then v else us k) none := by
  have hby : PBox y b tp us rd e := h.box.kept hp.1 (h.box.apart (h.rows t ht) rfl)
  refine ⟨(hp.below h.ble (fun k hk => ((h.rows t ht).lt hk).1)).setCell (p := ⟨b, 1 + t, none⟩) h.hb v, fun g hg ho => ho.put hp ht hg, fun g hg ho _ => ?_⟩
  exact ((hby.turned (1 + t) v).block g (Nat.lt_of_lt_of_le hg hp.1.size) (fun e => ho.1 (Option.some.inj e))).trans (hp.1.block g hg (fun e => ho.2 t ht e.symm))
theorem PortTo.of {y : World} {us' : Nat → Value} {o : Option Nat} (h : PortS y base b tp us' R rd e) (f : Frm x y base b us us' o) : PortTo x base b tp us R rd e o y := ⟨us', h, us, rfl, f⟩
set_option maxRecDepth 100000 in
set_option maxHeartbeats 4000000 in
theorem put_any (t : Nat) (v : Int) (ht : t < 64) (h : PortS x base b tp us R rd e) (hl : (R t).length ≤ 1000000) :
    Calls Try.prog 38 #[.pointer (some ⟨b, 0, none⟩), .int .i64 t, .int .i64 v] x fun ex y => ex = .returned (.tuple #[]) ∧ PortTo x base b tp us (fun k => if k = t then R t ++ [v] else R k) rd e none y := by
  have H := Lib.hid h
  have HB := Lib.hid h.ble
  have hbz := h.box.lt
  have r1 := h.box.row ht
  obtain ⟨A, c, eu, _⟩ := (h.rows t ht).reads
  rw [eu] at r1
  have EU := Lib.hid eu
  have i1 : (t : Int) < 64 := by omega
  have i2 : decide (t < 64) = true := decide_eq_true ht
  have hx7 : Below x.heap.size x (x.drew.alloc (.cells #[.int .i64 v] 3)) := (Below.refl _ _).drew.alloc (Nat.le_refl _) _
  have HX := Lib.hid hx7
  have RW := Lib.hid (show IOff (x.drew.alloc (.cells #[.int .i64 v] 3)) base (.slice A (R t).length c) (R t) from by
    have := (h.rows t ht).grow hx7
    rwa [eu] at this)
  have FA := Lib.hid (show ∀ (v7 : Value) (x7 : World), IOff x7 base v7 (R t ++ [v]) → Hop (x.drew.alloc (.cells #[.int .i64 v] 3)) x7 (Value.slice A (R t).length c).ownBlock v7.ownBlock →
      (x7.cell? ⟨b, 1 + t, none⟩ = some (.slice A (R t).length c) ∧ x7.frozen? ⟨b, 1 + t, none⟩ = false ∧ b < x7.heap.size) ∧ ∃ A7 d7, v7 = .slice A7 ((R t).length + 1) d7 from fun v7 x7 hr7 hp7 => by
    have hb7 : PBox x7 b tp us rd e := PBox.kept (h.box.grow hx7) hp7.1 (by rw [← eu]; exact h.box.apart (h.rows t ht) rfl)
    have c7 := hb7.row ht
    rw [eu] at c7
    obtain ⟨A7, d7, e7, _⟩ := hr7.reads
    rw [List.length_append] at e7
    exact ⟨⟨c7, hb7.frozen _, hb7.lt⟩, A7, d7, e7⟩)
  clear h eu hx7
  go_enter Try.func38, Try.ntmps38
  go_region_law ((refine step_appO rfl _ _ rfl base _ (R t) rfl RW.out _ [v] rfl (src_block Try.underlying45 1 1 1 _ _ 3 (0, 0) (heap_alloc_new _ _) rfl (by simp [Value.oneCell'])) (by simp; omega) (by have := HB.out; simp; omega) ?_; intro v7 x7 hr7 hp7; obtain ⟨⟨c7, f7, z7⟩, A7, d7, e7⟩ := FA.out v7 x7 hr7 hp7; subst e7))
  all_goals
    rw [← EU.out] at hp7
    have TF := Lib.hid ((H.out.grow HX.out).put ht hr7 hp7)
    have FF := Lib.hid ((Frm.grow HB.out HX.out).trans ((H.out.grow HX.out).putFrm ht hr7 hp7))
    clear hr7 hp7 FA RW HX c7 f7 z7 hbz r1
    go_wp2_with fail
    go_end0
    exact ⟨rfl, PortTo.of TF.out FF.out⟩
set_option maxRecDepth 100000 in
set_option maxHeartbeats 4000000 in
theorem next_any (t : Nat) (z : Int) (zs : List Int) (ht : t < 64) (h : PortS x base b tp us R rd e) (hR : R t = z :: zs) (hl : zs.length ≤ 1000000) :
    Calls Try.prog 39 #[.pointer (some ⟨b, 0, none⟩), .int .i64 t] x fun ex y => ex = .returned (.tuple #[.int .i64 z, .bool true]) ∧ PortTo x base b tp us (fun k => if k = t then zs else R k) rd e none y := by
  have H := Lib.hid h
  have hbz := h.box.lt
  have r1 := h.box.row ht
  have f1 := h.box.frozen (1 + t)
  have hr := h.rows t ht
  rw [hR] at hr
  obtain ⟨g, o, c, eu, hlc, hgz, hcell, hnx⟩ := hr.next
  rw [eu] at r1
  have EU := Lib.hid eu
  have NX := Lib.hid hnx
  have i1 : (t : Int) < 64 := by omega
  have i2 : decide (t < 64) = true := decide_eq_true ht
  have i3 : ((zs.length : Int) + 1 == 0) = false := by simp; omega
  clear h eu hnx hr hR
  go_enter Try.func39, Try.ntmps39
  go_wp2_with fail
  go_region
  have hp : Hop x x (us t).ownBlock (Value.slice (if c = 1 then some ⟨g, o, none⟩ else some ⟨g, o + 1, none⟩) zs.length (c - 1)).ownBlock := ⟨World.grownBy.refl _ _, .inl (by
    rw [EU.out]
    by_cases hc : c = 1
    · rw [if_pos hc]; rfl
    · rw [if_neg hc]; rfl)⟩
  have TF := Lib.hid ((H.out.put ht NX.out hp).grow (Below.drew (Below.refl _ _)))
  have FF := Lib.hid ((H.out.putFrm ht NX.out hp).trans (Frm.grow (H.out.put ht NX.out hp).ble (Below.drew (Below.refl _ _))))
  clear hp NX
  generalize Value.slice (if c = 1 then some ⟨g, o, none⟩ else some ⟨g, o + 1, none⟩) zs.length (c - 1) = u at TF FF ⊢
  go_wp2_with fail
  go_ret2
  exact ⟨rfl, PortTo.of TF.out FF.out⟩
theorem next_end (t : Nat) (ht : t < 64) (h : PortS x base b tp us R rd e) (hR : R t = []) :
    Calls Try.prog 39 #[.pointer (some ⟨b, 0, none⟩), .int .i64 t] x fun ex y => ex = .returned (.tuple #[.int .i64 0, .bool false]) ∧ PortTo x base b tp us R rd (fe e 6) none y := by
  have H := Lib.hid h
  have HF := Lib.hid (fail_any 6 h)
  have hbz := h.box.lt
  have r1 := h.box.row ht
  have hr := h.rows t ht
  rw [hR] at hr
  obtain ⟨A, c, eu, _⟩ := hr.reads
  rw [eu] at r1
  have i1 : (t : Int) < 64 := by omega
  have i2 : decide (t < 64) = true := decide_eq_true ht
  clear h eu hr hR
  go_enter Try.func39, Try.ntmps39
  go_wp2_with fail
  refine HF.out.mono ?_
  rintro ex y ⟨rfl, h1, hg⟩
  have H1 := Lib.hid h1
  have G1 := Lib.hid hg
  clear h1 hg HF
  go_wp2_with fail
  go_ret2
  exact ⟨rfl, PortTo.of H1.out (Frm.box H.out.hb H.out.ble G1.out)⟩
end
end Go.Proofs.Ytdmiljaiglaacaa

/- The walks of layer 29: a number goes through; how many; a writer. -/
namespace Go.Proofs.Ytdmiljaiglaacaa
open Go.RowKit

def upd (R : Nat → List Int) (t : Nat) (zs : List Int) : Nat → List Int := fun k => if k = t then zs else R k
/-- A number goes through: the rows, the error, the number. -/
def stepI (rd : Bool) (R : Nat → List Int) (e row v : Int) : (Nat → List Int) × Int × Int :=
  if pe e row true ≠ 0 then (R, pe e row true, v)
  else if rd then (match R row.toNat with
    | [] => (R, 6, v)
    | z :: zs => (upd R row.toNat zs, 0, z))
  else (upd R row.toNat (R row.toNat ++ [v]), 0, v)
theorem pe_ok {e row : Int} {there : Bool} (h : pe e row there = 0) : e = 0 ∧ 0 ≤ row ∧ row < 64 ∧ there = true := by
  unfold pe fe at h
  by_cases hb : row < 0 ∨ 64 ≤ row ∨ there = false
  · rw [if_pos hb] at h
    split at h
    · cases h
    · next h0 => exact absurd h h0
  · rw [if_neg hb] at h
    refine ⟨h, by omega, by omega, ?_⟩
    cases there
    · exact absurd (.inr (.inr rfl)) hb
    · rfl
theorem set_self {cs : Array Value} {o : Nat} {v : Value} (h : cs[o]? = some v) : cs.setIfInBounds o v = cs := by
  apply Array.ext_getElem?
  intro k
  rw [Array.getElem?_setIfInBounds]
  by_cases e : o = k
  · subst e
    obtain ⟨h1, _⟩ := Array.getElem?_eq_some_iff.1 h
    rw [if_pos rfl, if_pos h1, h]
  · rw [if_neg e]
theorem heap_set {w : World} {g o : Nat} {cs : Array Value} {ty : TypeId} {fr : Nat × Nat} (h : w.heap[g]? = some (.cells cs ty fr)) (v : Value) : (w.setCell ⟨g, o, none⟩ v).heap[g]? = some (.cells (cs.setIfInBounds o v) ty fr) := by
  rw [setCell_eq_setRow w g o cs ty fr v h]
  exact setRow_heap w g cs _ ty fr h
theorem heap_turned {w : World} {g o : Nat} {cs : Array Value} {ty : TypeId} {fr : Nat × Nat} (h : w.heap[g]? = some (.cells cs ty fr)) (v : Value) : w.grownBy (w.setCell ⟨g, o, none⟩ v) (some g) := by
  rw [setCell_eq_setRow w g o cs ty fr v h]
  exact ⟨rfl, rfl, rfl, by simp, fun k _ hne => setRow_other w g k _ (fun hh => hne (by rw [hh]))⟩
theorem Frm.cell {y : World} {base b g : Nat} {us : Nat → Value} (hb : base ≤ g) (hby : base ≤ y.heap.size) {z : World} (k : y.grownBy z (some g)) : Frm y z base b us us (some g) :=
  ⟨(Below.refl base y).grown k hby (fun j hj => by cases hj; exact hb), fun _ _ h => h, fun j hj _ hne => k.block j hj hne⟩

section
variable {x : World} {base b : Nat} {tp : Value} {us : Nat → Value} {R : Nat → List Int} {rd : Bool} {e : Int}
/-- What comes of a number's way. -/
def IntOk (x : World) (base b : Nat) (tp : Value) (us : Nat → Value) (R : Nat → List Int) (rd : Bool) (e : Int) (g o : Nat) (cs : Array Value) (ty : TypeId) (v' : Value) (ex : Ending) (y : World) : Prop :=
  ex = .returned (.tuple #[]) ∧ PortTo x base b tp us R rd e (some g) y ∧ y.heap[g]? = some (.cells (cs.setIfInBounds o v') ty (0, 0))
set_option maxRecDepth 100000 in
theorem int_any (row v : Int) (g o : Nat) (cs : Array Value) (ty : TypeId) (h : PortS x base b tp us R rd e) (hg : x.heap[g]? = some (.cells cs ty (0, 0))) (hc : cs[o]? = some (.int .i64 v)) (ho : Off us b g) (hb : base ≤ g) (hl : ∀ t, (R t).length ≤ 1000000) :
    Calls Try.prog 16 #[.pointer (some ⟨b, 0, none⟩), .int .i64 row, .pointer (some ⟨g, o, none⟩)] x (IntOk x base b tp us (stepI rd R e row v).1 rd (stepI rd R e row v).2.1 g o cs ty (.int .i64 (stepI rd R e row v).2.2)) := by
  have H := Lib.hid h
  have HG := Lib.hid hg
  have HC := Lib.hid hc
  have HO := Lib.hid ho
  have HLN := Lib.hid hl
  have HP := Lib.hid (open_any row true h)
  have hgz : g < x.heap.size := (Array.getElem?_eq_some_iff.1 hg).1
  clear h hg hc ho hl
  unfold stepI
  by_cases h0 : pe e row true = 0
  · rw [if_neg (by simp [h0])]
    obtain ⟨he, hr0, hr1, _⟩ := pe_ok h0
    obtain ⟨t, rfl⟩ := Int.eq_ofNat_of_zero_le hr0
    have ht : t < 64 := by omega
    rw [h0] at HP
    subst he
    rw [Int.toNat_natCast]
    clear h0 hr0 hr1
    cases rd with
    | false =>
      rw [if_neg (by simp)]
      go_enter Try.func16, Try.ntmps16
      go_wp2_with fail
      refine HP.out.mono ?_
      rintro ex x1 ⟨rfl, h1, hg1⟩
      have H1 := Lib.hid h1
      have F1 := Lib.hid (Frm.box (o := some g) (us := us) H.out.hb H.out.ble hg1)
      have hg1 := (hg1.block g hgz (fun e => HO.out.1 (Option.some.inj e))).trans HG.out
      have G1 := Lib.hid hg1
      have c1 := h1.box.isr
      have z1 := h1.box.lt
      have c2 := ((blk_facts hg1).1 o).trans HC.out
      have z2 := (Array.getElem?_eq_some_iff.1 hg1).1
      clear h1 hg1 HP
      go_wp2_with fail
      refine (put_any t v ht H1.out (HLN.out t)).mono ?_
      rintro ex y ⟨rfl, us', h2, us0, rfl, f2⟩
      have hgy := (f2.same g z2 HO.out (by simp)).trans G1.out
      have H2 := Lib.hid h2
      have F2 := Lib.hid (F1.out.trans f2.lift)
      have GY := Lib.hid hgy
      clear h2 f2 hgy c1 c2 z1 z2 F1
      go_wp2_with fail
      go_end0
      exact ⟨rfl, PortTo.of H2.out F2.out, by rw [set_self HC.out]; exact GY.out⟩
    | true =>
      rw [if_pos rfl]
      cases hR : R t with
      | nil =>
        simp only [hR]
        go_enter Try.func16, Try.ntmps16
        go_wp2_with fail
        refine HP.out.mono ?_
        rintro ex x1 ⟨rfl, h1, hg1⟩
        have H1 := Lib.hid h1
        have F1 := Lib.hid (Frm.box (o := some g) (us := us) H.out.hb H.out.ble hg1)
        have hg1 := (hg1.block g hgz (fun e => HO.out.1 (Option.some.inj e))).trans HG.out
        have G1 := Lib.hid hg1
        have c1 := h1.box.isr
        have z1 := h1.box.lt
        have z2 := (Array.getElem?_eq_some_iff.1 hg1).1
        clear h1 hg1 HP
        have HN := Lib.hid (next_end t ht H1.out hR)
        clear hR
        go_wp2_with fail
        refine HN.out.mono ?_
        rintro ex y ⟨rfl, us', h2, us0, rfl, f2⟩
        have hgy := (f2.same g z2 HO.out (by simp)).trans G1.out
        have H2 := Lib.hid h2
        have F2 := Lib.hid (F1.out.trans f2.lift)
        have GY := Lib.hid hgy
        clear h2 f2 hgy c1 z1 z2 F1
        go_wp2_with fail
        go_end0
        exact ⟨rfl, PortTo.of H2.out F2.out, by rw [set_self HC.out]; exact GY.out⟩
      | cons z zs =>
        simp only [hR]
        go_enter Try.func16, Try.ntmps16
        go_wp2_with fail
        refine HP.out.mono ?_
        rintro ex x1 ⟨rfl, h1, hg1⟩
        have H1 := Lib.hid h1
        have F1 := Lib.hid (Frm.box (o := some g) (us := us) H.out.hb H.out.ble hg1)
        have hg1 := (hg1.block g hgz (fun e => HO.out.1 (Option.some.inj e))).trans HG.out
        have G1 := Lib.hid hg1
        have c1 := h1.box.isr
        have z1 := h1.box.lt
        have z2 := (Array.getElem?_eq_some_iff.1 hg1).1
        clear h1 hg1 HP
        have HN := Lib.hid (next_any t z zs ht H1.out hR (by have := HLN.out t; rw [hR, List.length_cons] at this; omega))
        clear hR
        go_wp2_with fail
        refine HN.out.mono ?_
        rintro ex y ⟨rfl, us', h2, us0, rfl, f2⟩
        have hgy := (f2.same g z2 HO.out (by simp)).trans G1.out
        have hf := (blk_facts hgy).2 o
        have hgz := (Array.getElem?_eq_some_iff.1 hgy).1
        have hco := ((blk_facts hgy).1 o).trans HC.out
        have hoy := f2.off g z2 HO.out
        have H2 := Lib.hid (h2.kept hoy (heap_turned (o := o) hgy (.int .i64 z)))
        have F2 := Lib.hid ((F1.out.trans f2.lift).trans (Frm.cell hb h2.ble (heap_turned (o := o) hgy (.int .i64 z))))
        have GY := Lib.hid (heap_set (o := o) hgy (.int .i64 z))
        clear h2 f2 hgy c1 z1 z2 F1 hoy
        go_wp2_with fail
        go_end0
        exact ⟨rfl, PortTo.of H2.out F2.out, GY.out⟩
  · rw [if_pos h0]
    have p0 : (pe e row true == 0) = false := by simpa using h0
    rw [p0] at HP
    clear h0 p0
    go_enter Try.func16, Try.ntmps16
    go_wp2_with fail
    refine HP.out.mono ?_
    rintro ex x1 ⟨rfl, h1, hg1⟩
    have H1 := Lib.hid h1
    have F1 := Lib.hid (Frm.box (o := some g) (us := us) H.out.hb H.out.ble hg1)
    have G1 := Lib.hid ((hg1.block g hgz (fun e => HO.out.1 (Option.some.inj e))).trans HG.out)
    clear h1 hg1 HP
    go_wp2_with fail
    go_end0
    exact ⟨rfl, PortTo.of H1.out F1.out, by rw [set_self HC.out]; exact G1.out⟩
end
end Go.Proofs.Ytdmiljaiglaacaa

/- The walks of layer 29: a writer; how many; what goes through no port. -/
namespace Go.Proofs.Ytdmiljaiglaacaa
open Go.RowKit

theorem zport_list : (Try.zeroCells66.toList.drop 1).take 64 = List.replicate 64 (.slice none 0 0) := by kernel_rfl
theorem zport_size : Try.zeroCells66.size = 67 := by kernel_rfl
theorem zport_at {t : Nat} (ht : t < 64) : Try.zeroCells66[1 + t]? = some (.slice none 0 0) := by
  have h1 : ((Try.zeroCells66.toList.drop 1).take 64)[t]? = some (.slice none 0 0) := by rw [zport_list, List.getElem?_replicate, if_pos ht]
  rw [List.getElem?_take_of_lt ht, List.getElem?_drop] at h1
  simpa using h1
theorem zport_rd : Try.zeroCells66[65]? = some (.bool false) := by kernel_rfl
theorem zport_err : Try.zeroCells66[66]? = some (.int .i64 0) := by kernel_rfl
/-- A new port's box. -/
theorem port_made {y : World} {b : Nat} (tp : Value) (rd : Bool) (hb : y.heap[b]? = some (.cells ((Try.zeroCells66.setIfInBounds 0 tp).setIfInBounds 65 (.bool rd)) 66 (0, 0))) : PortS y b b tp (fun _ => .slice none 0 0) (fun _ => []) rd 0 := by
  refine ⟨⟨_, hb, by simp [zport_size], ?_, fun t ht => ?_, ?_, ?_⟩, fun t _ => IOff.nil _ _, (fun s t _ _ _ k hk => by cases hk), Nat.le_refl _⟩
  · rw [Array.getElem?_setIfInBounds, if_neg (by omega), Array.getElem?_setIfInBounds, if_pos rfl, if_pos (by rw [zport_size]; omega)]
  · rw [Array.getElem?_setIfInBounds, if_neg (by omega), Array.getElem?_setIfInBounds, if_neg (by omega)]; exact zport_at ht
  · rw [Array.getElem?_setIfInBounds, if_pos rfl, if_pos (by simp [zport_size])]
  · rw [Array.getElem?_setIfInBounds, if_neg (by omega), Array.getElem?_setIfInBounds, if_neg (by omega)]; exact zport_err
set_option maxRecDepth 100000 in
theorem writer_any (tp : Option Addr) (x : World) : Calls Try.prog 10 #[.pointer tp] x fun ex y => ex = .returned (.pointer (some ⟨x.heap.size, 0, none⟩)) ∧ PortS y x.heap.size x.heap.size (.pointer tp) (fun _ => .slice none 0 0) (fun _ => []) false 0 ∧ Below x.heap.size x y := by
  have hp := port_made (y := x.alloc (.cells (Try.zeroCells66.setIfInBounds 0 (.pointer tp)) 66)) (b := x.heap.size) (.pointer tp) false (by
    rw [heap_alloc_new, set_self (cs := Try.zeroCells66.setIfInBounds 0 (.pointer tp))]
    rw [Array.getElem?_setIfInBounds, if_neg (by omega)]; exact zport_rd)
  have H := Lib.hid hp
  clear hp
  go_enter Try.func10, Try.ntmps10
  go_wp2
  go_ret
  exact ⟨rfl, H.out, (Below.refl _ _).alloc (Nat.le_refl _) _⟩

/-- How many go through. -/
def stepC (rd : Bool) (R : Nat → List Int) (e row n most : Int) : (Nat → List Int) × Int × Int :=
  let s := stepI rd R e row n
  let e' := if rd = true ∧ (s.2.2 < 0 ∨ most < s.2.2) then fe s.2.1 5 else s.2.1
  (s.1, e', if e' ≠ 0 then 0 else s.2.2)
theorem Frm.fresh {x x' y : World} {base b : Nat} {us us' : Nat → Value} (hb : base ≤ x.heap.size) (k : Below x.heap.size x x') (h : Frm x' y base b us us' (some x.heap.size)) : Frm x y base b us us' none :=
  ⟨(k.mono hb).trans h.below, fun g hg ho => h.off g (Nat.lt_of_lt_of_le hg k.size) ho, fun g hg ho _ => (h.same g (Nat.lt_of_lt_of_le hg k.size) ho (fun e => by cases e; omega)).trans (k.block g hg)⟩
section
variable {x : World} {base b : Nat} {tp : Value} {us : Nat → Value} {R : Nat → List Int} {rd : Bool} {e : Int}
set_option maxRecDepth 100000 in
set_option maxHeartbeats 4000000 in
theorem count_any (row n most : Int) (h : PortS x base b tp us R rd e) (hl : ∀ t, (R t).length ≤ 1000000) :
    Calls Try.prog 17 #[.pointer (some ⟨b, 0, none⟩), .int .i64 row, .int .i64 n, .int .i64 most] x fun ex y =>
      ex = .returned (.int .i64 (stepC rd R e row n most).2.2) ∧ PortTo x base b tp us (stepC rd R e row n most).1 rd (stepC rd R e row n most).2.1 none y := by
  have k0 := Lib.hid ((Below.refl x.heap.size x).alloc (Nat.le_refl _) (.cells #[.int .i64 n] 3))
  have HB := Lib.hid h.ble
  have HOF := Lib.hid (h.off (Nat.le_refl _))
  have HI := Lib.hid (int_any row n x.heap.size 0 #[.int .i64 n] 3 (h.grow k0.out) (heap_alloc_new _ _) rfl (h.off (Nat.le_refl _)) h.ble hl)
  clear h hl
  unfold stepC
  dsimp only
  generalize stepI rd R e row n = s at HI ⊢
  obtain ⟨R1, e1, v⟩ := s
  dsimp only at HI ⊢
  generalize he2 : (if rd = true ∧ (v < 0 ∨ most < v) then fe e1 5 else e1) = e2
  generalize ho2 : (if e2 ≠ 0 then 0 else v) = o2
  have HE2 := he2.symm
  have HO2 := ho2
  clear he2 ho2
  have HE2' := Lib.hid HE2
  have HO2' := Lib.hid HO2
  clear HE2 HO2
  go_enter Try.func17, Try.ntmps17
  go_wp2_with fail
  refine HI.out.mono ?_
  rintro ex y ⟨rfl, ⟨us', h2, us0, rfl, f2⟩, hgy⟩
  have hgy' : y.heap[x.heap.size]? = some (.cells #[.int .i64 v] 3 (0, 0)) := hgy
  have c1 : y.cell? ⟨x.heap.size, 0, none⟩ = some (.int .i64 v) := (blk_facts hgy').1 0
  have z1 := (Array.getElem?_eq_some_iff.1 hgy').1
  have H2 := Lib.hid h2
  have F2 := Lib.hid (Frm.fresh HB.out k0.out f2)
  have HRD := Lib.hid (reads_any h2)
  have OFF := Lib.hid (f2.off _ (by simp) HOF.out)
  have GY := Lib.hid hgy'
  clear h2 f2 hgy hgy' HI
  go_wp2_with fail
  refine HRD.out.mono ?_
  rintro ex y1 ⟨rfl, rfl⟩
  clear HRD
  cases rd with
  | false =>
    obtain rfl : e1 = e2 := by rw [HE2'.out]; exact (if_neg (fun h => by cases h.1)).symm
    have HE := Lib.hid (err_any H2.out)
    clear HE2'
    by_cases h0 : e1 = 0
    · have HO := Lib.hid (show o2 = v from by rw [← HO2'.out]; exact if_neg (fun h => h h0))
      have p0 : (e1 != 0) = false := by simp [h0]
      clear h0 HO2'
      go_wp2_with fail
      refine HE.out.mono ?_
      rintro ex y3 ⟨rfl, rfl⟩
      go_wp2_with fail
      go_ret
      exact ⟨by rw [HO.out]; rfl, PortTo.of H2.out F2.out⟩
    · have HO := Lib.hid (show o2 = 0 from by rw [← HO2'.out]; exact if_pos h0)
      have p0 : (e1 != 0) = true := by simpa using h0
      clear h0 HO2'
      go_wp2_with fail
      refine HE.out.mono ?_
      rintro ex y3 ⟨rfl, rfl⟩
      go_wp2_with fail
      go_ret
      exact ⟨by rw [HO.out]; rfl, PortTo.of H2.out F2.out⟩
  | true =>
    by_cases q1 : v < 0
    · have p1 : decide (v < 0) = true := decide_eq_true q1
      obtain ⟨e3, he3⟩ : ∃ e3, e3 = fe e1 5 := ⟨_, rfl⟩
      obtain rfl : e3 = e2 := by rw [HE2'.out, he3]; exact (if_pos ⟨rfl, .inl q1⟩).symm
      have HFL := Lib.hid (fail_any 5 H2.out)
      rw [← he3] at HFL
      clear HE2' he3
      go_wp2_with fail
      refine HFL.out.mono ?_
      rintro ex y2 ⟨rfl, h3, hg3⟩
      have hgy := (hg3.block _ z1 (fun e => OFF.out.1 (Option.some.inj e))).trans GY.out
      have c3 : y2.cell? ⟨x.heap.size, 0, none⟩ = some (.int .i64 v) := (blk_facts hgy).1 0
      have z3 := (Array.getElem?_eq_some_iff.1 hgy).1
      have H3 := Lib.hid h3
      have F3 := Lib.hid (F2.out.trans (Frm.box H2.out.hb H2.out.ble hg3))
      have HE := Lib.hid (err_any h3)
      clear h3 hg3 hgy c1 z1 HFL
      by_cases h0 : e3 = 0
      · have HO := Lib.hid (show o2 = v from by rw [← HO2'.out]; exact if_neg (fun h => h h0))
        have p0 : (e3 != 0) = false := by simp [h0]
        clear h0 HO2'
        go_wp2_with fail
        refine HE.out.mono ?_
        rintro ex y3 ⟨rfl, rfl⟩
        go_wp2_with fail
        go_ret
        exact ⟨by rw [HO.out]; rfl, PortTo.of H3.out F3.out⟩
      · have HO := Lib.hid (show o2 = 0 from by rw [← HO2'.out]; exact if_pos h0)
        have p0 : (e3 != 0) = true := by simpa using h0
        clear h0 HO2'
        go_wp2_with fail
        refine HE.out.mono ?_
        rintro ex y3 ⟨rfl, rfl⟩
        go_wp2_with fail
        go_ret
        exact ⟨by rw [HO.out]; rfl, PortTo.of H3.out F3.out⟩
    · have p1 : decide (v < 0) = false := decide_eq_false q1
      by_cases q2 : most < v
      · have p2 : decide (most < v) = true := decide_eq_true q2
        obtain ⟨e3, he3⟩ : ∃ e3, e3 = fe e1 5 := ⟨_, rfl⟩
        obtain rfl : e3 = e2 := by rw [HE2'.out, he3]; exact (if_pos ⟨rfl, .inr q2⟩).symm
        have HFL := Lib.hid (fail_any 5 H2.out)
        rw [← he3] at HFL
        clear HE2' he3
        go_wp2_with fail
        refine HFL.out.mono ?_
        rintro ex y2 ⟨rfl, h3, hg3⟩
        have hgy := (hg3.block _ z1 (fun e => OFF.out.1 (Option.some.inj e))).trans GY.out
        have c3 : y2.cell? ⟨x.heap.size, 0, none⟩ = some (.int .i64 v) := (blk_facts hgy).1 0
        have z3 := (Array.getElem?_eq_some_iff.1 hgy).1
        have H3 := Lib.hid h3
        have F3 := Lib.hid (F2.out.trans (Frm.box H2.out.hb H2.out.ble hg3))
        have HE := Lib.hid (err_any h3)
        clear h3 hg3 hgy c1 z1 HFL
        by_cases h0 : e3 = 0
        · have HO := Lib.hid (show o2 = v from by rw [← HO2'.out]; exact if_neg (fun h => h h0))
          have p0 : (e3 != 0) = false := by simp [h0]
          clear h0 HO2'
          go_wp2_with fail
          refine HE.out.mono ?_
          rintro ex y3 ⟨rfl, rfl⟩
          go_wp2_with fail
          go_ret
          exact ⟨by rw [HO.out]; rfl, PortTo.of H3.out F3.out⟩
        · have HO := Lib.hid (show o2 = 0 from by rw [← HO2'.out]; exact if_pos h0)
          have p0 : (e3 != 0) = true := by simpa using h0
          clear h0 HO2'
          go_wp2_with fail
          refine HE.out.mono ?_
          rintro ex y3 ⟨rfl, rfl⟩
          go_wp2_with fail
          go_ret
          exact ⟨by rw [HO.out]; rfl, PortTo.of H3.out F3.out⟩
      · have p2 : decide (most < v) = false := decide_eq_false q2
        obtain rfl : e1 = e2 := by rw [HE2'.out]; exact (if_neg (fun h => h.2.elim q1 q2)).symm
        have HE := Lib.hid (err_any H2.out)
        clear HE2'
        by_cases h0 : e1 = 0
        · have HO := Lib.hid (show o2 = v from by rw [← HO2'.out]; exact if_neg (fun h => h h0))
          have p0 : (e1 != 0) = false := by simp [h0]
          clear h0 HO2'
          go_wp2_with fail
          refine HE.out.mono ?_
          rintro ex y3 ⟨rfl, rfl⟩
          go_wp2_with fail
          go_ret
          exact ⟨by rw [HO.out]; rfl, PortTo.of H2.out F2.out⟩
        · have HO := Lib.hid (show o2 = 0 from by rw [← HO2'.out]; exact if_pos h0)
          have p0 : (e1 != 0) = true := by simpa using h0
          clear h0 HO2'
          go_wp2_with fail
          refine HE.out.mono ?_
          rintro ex y3 ⟨rfl, rfl⟩
          go_wp2_with fail
          go_ret
          exact ⟨by rw [HO.out]; rfl, PortTo.of H2.out F2.out⟩
end
end Go.Proofs.Ytdmiljaiglaacaa

/- Maps by values that the call makes. -/
namespace Go.Proofs.Ytdmiljaiglaacaa
open Go.RowKit Go.Maps

theorem laidOutV : laidOutB Try.prog = true := by kernel_rfl
theorem rowV : (28 : TypeId) < Try.prog.types.size := of_decide_eq_true (by kernel_rfl)
theorem wideV : (match Try.prog.underlying 28 with | some (.array _ _) | some (.struct _) => true | _ => false) = true := by rw [Try.underlying28]
theorem deepV : Try.prog.keyTypeAt 2 28 = true := by kernel_rfl
set_option maxRecDepth 100000 in
theorem lawV : Keyed Try.prog 28 := Keyed.of_law (deep_law_laid laidOutV (m := 2) (by omega) rowV deepV wideV)
theorem cellsV : Try.prog.cellsOf 28 = 6 := by kernel_rfl
theorem cellsS : Try.prog.cellsOf 9 = 1 := by kernel_rfl
theorem cellsI : Try.prog.cellsOf 3 = 1 := by kernel_rfl
theorem cellsU : Try.prog.cellsOf 26 = 1 := by kernel_rfl
theorem keyTypeV : Try.prog.keyType 28 = true := by kernel_rfl
theorem succ_of_lt : ∀ {m n : Nat}, m < n → ∃ k, n = k + 1
  | _, 0, h => absurd h (Nat.not_lt_zero _)
  | _, n + 1, _ => ⟨n, rfl⟩
set_option maxRecDepth 100000 in
theorem size_succ : ∃ n, Try.prog.types.size = n + 1 := succ_of_lt rowV
/-- What a value is as a key. -/
def kv (v : Pv) : Lit := .string (keyBytes [.int .i64 v.tag, .string v.text, .int .u64 v.bits, .string v.cls, .string v.name, .string v.desc])
theorem bs_data (l : List UInt8) : (bs l).data.toList = l := by simp [bs]
/-- A value that may be a key. -/
def Pv.fitsK (v : Pv) : Prop := I64 v.tag ∧ v.bits < 18446744073709551616 ∧ v.text.length ≤ maxLen ∧ v.cls.length ≤ maxLen ∧ v.name.length ≤ maxLen ∧ v.desc.length ≤ maxLen
theorem Pv.fits.k {v : Pv} (h : v.fits) : v.fitsK := by
  obtain ⟨h0, h1, h2, h3, h4, h5⟩ := h
  exact ⟨h0, h1, by unfold maxLen; omega, by unfold maxLen; omega, by unfold maxLen; omega, by unfold maxLen; omega⟩
theorem wfI {x : Int} : (Lit.int .i64 x).wf = true ↔ I64 x := by
  unfold I64
  simp [Lit.wf, IntKind.min, IntKind.max, IntKind.signed, IntKind.bits]
theorem wfU {x : Int} : (Lit.int .u64 x).wf = true ↔ 0 ≤ x ∧ x < 18446744073709551616 := by
  simp [Lit.wf, IntKind.min, IntKind.max, IntKind.signed, IntKind.bits]
  omega
theorem keyV {v : Pv} (h : v.fitsK) : keyOf Try.prog 28 (vv v) = some (kv v) := by
  obtain ⟨h0, h1, m2, m3, m4, m5⟩ := h
  have hw0 : (Lit.int .i64 v.tag).wf = true := wfI.2 h0
  have hw1 : (Lit.int .u64 (v.bits : Int)).wf = true := wfU.2 ⟨by omega, by omega⟩
  obtain ⟨n, hs⟩ := size_succ
  unfold keyOf vv
  rw [Try.underlying28]
  simp only [keyTypeV, Value.formed, Try.underlying28, cellsV, hs]
  simp [Program.keyLits, Try.underlying28, Try.underlying3, Try.underlying9, Try.underlying26, cellsV, cellsS, cellsI, cellsU, hw0, hw1, bs_size, m2, m3, m4, m5, kv, Value.cells, bs_data]
theorem vv_inj {a b : Pv} (h : vv a = vv b) : a = b := by
  unfold vv at h
  simp only [Value.agg.injEq, Array.mk.injEq, List.cons.injEq, Value.int.injEq, Value.string.injEq, true_and, and_true] at h
  obtain ⟨h0, h1, h2, h3, h4, h5⟩ := h
  exact (Pv.key_inj (by
    unfold Pv.key
    rw [h0, bs_inj h1, bs_inj h3, bs_inj h4, bs_inj h5, show a.bits = b.bits by omega]))
theorem kv_inj {a b : Pv} (ha : a.fitsK) (hb : b.fitsK) (h : kv a = kv b) : a = b := vv_inj (lawV.inj (keyV ha) (h ▸ keyV hb))
theorem litI {n : Nat} {a : Value} {L : List Lit} (h : Try.prog.keyLits (n + 1) 3 [a] = some L) : ∃ x, a = .int .i64 x ∧ I64 x ∧ L = [.int .i64 x] := by
  cases a <;> simp [Program.keyLits, Try.underlying3] at h
  obtain ⟨⟨rfl, hw⟩, rfl⟩ := h
  exact ⟨_, rfl, wfI.1 hw, rfl⟩
theorem litU {n : Nat} {a : Value} {L : List Lit} (h : Try.prog.keyLits (n + 1) 26 [a] = some L) : ∃ x : Nat, a = .int .u64 x ∧ x < 18446744073709551616 ∧ L = [.int .u64 x] := by
  cases a <;> simp [Program.keyLits, Try.underlying26] at h
  rename_i k x
  obtain ⟨⟨rfl, hw⟩, rfl⟩ := h
  obtain ⟨h1, h2⟩ := wfU.1 hw
  obtain ⟨m, rfl⟩ : ∃ m : Nat, x = (m : Int) := ⟨x.toNat, by omega⟩
  exact ⟨m, rfl, by omega, rfl⟩
theorem litS {n : Nat} {a : Value} {L : List Lit} (h : Try.prog.keyLits (n + 1) 9 [a] = some L) : ∃ x, a = .string (bs x) ∧ x.length ≤ maxLen ∧ L = [.string x] := by
  cases a <;> simp [Program.keyLits, Try.underlying9] at h
  rename_i s
  obtain ⟨hw, rfl⟩ := h
  exact ⟨s.data.toList, rfl, by rw [Array.length_toList]; exact hw, rfl⟩
set_option maxHeartbeats 1000000 in
set_option maxRecDepth 100000 in
theorem keyV_inv {key : Value} {kl : Lit} (h : keyOf Try.prog 28 key = some kl) : ∃ v : Pv, v.fitsK ∧ key = vv v ∧ kl = kv v := by
  obtain ⟨xs, L, rfl, hl, rfl⟩ := keyOf_top wideV h
  obtain ⟨n, hs⟩ := size_succ
  rw [hs] at hl
  obtain ⟨l⟩ := xs
  unfold Program.keyLits at hl
  simp only [Try.underlying28, cellsV] at hl
  split at hl
  · rename_i hc
    have h6 := hc.1
    match l, h6 with
    | [a, b, c, d, e, f], _ =>
      simp only [List.mapM_cons, List.mapM_nil, cellsS, cellsI, cellsU, List.drop_succ_cons, List.drop_zero, List.take_succ_cons, List.take_zero, Option.map_eq_some_iff, Option.bind_eq_bind, Option.bind_eq_some_iff, Option.pure_def, Option.some.injEq] at hl
      obtain ⟨_, ⟨L0, h0, _, ⟨L1, h1, _, ⟨L2, h2, _, ⟨L3, h3, _, ⟨L4, h4, _, ⟨L5, h5, _, rfl, rfl⟩, rfl⟩, rfl⟩, rfl⟩, rfl⟩, rfl⟩, rfl⟩ := hl
      obtain ⟨x0, rfl, g0, rfl⟩ := litI h0
      obtain ⟨x1, rfl, g1, rfl⟩ := litS h1
      obtain ⟨x2, rfl, g2, rfl⟩ := litU h2
      obtain ⟨x3, rfl, g3, rfl⟩ := litS h3
      obtain ⟨x4, rfl, g4, rfl⟩ := litS h4
      obtain ⟨x5, rfl, g5, rfl⟩ := litS h5
      exact ⟨⟨x0, x1, x2, x3, x4, x5⟩, ⟨g0, g2, g1, g3, g4, g5⟩, rfl, rfl⟩
  · cases hl

/-! ### Sets of values -/
theorem zeroB (w : World) : (zeroValue 4).run Try.prog w = .ok (.bool false) w := by kernel_rfl
theorem zeroN (w : World) : (zeroValue 3).run Try.prog w = .ok (.int .i64 0) w := by kernel_rfl
set_option maxRecDepth 100000 in
theorem plainB_inv {v : Value} {z : DataW Unit × List MemPlace} (h : plainElem (H := Unit) Try.prog 4 v = some z) : ∃ x, v = .bool x ∧ z = (.lit (.bool x), []) := by
  unfold plainElem at h
  rw [Try.underlying4] at h
  cases v <;> simp at h
  exact ⟨_, rfl, h.symm⟩
noncomputable abbrev RB := plainElem (H := Unit) Try.prog 4
noncomputable abbrev RN := plainElem (H := Unit) Try.prog 3
def SetIs (D : DataW Unit) (S : Pv → Bool) : Prop := (∀ v : Pv, v.fitsK → D.atKey (kv v) (.lit (.bool false)) = .lit (.bool (S v))) ∧ ∀ v : Pv, v.fitsK → Maps.has D (kv v) = S v
def VSet (w : World) (b n : Nat) (S : Pv → Bool) : Prop := ∃ D : DataW Unit, w.ownsMap Try.prog 28 RB b n D ∧ SetIs D S
def VNum (w : World) (b n : Nat) (f : Pv → Int) : Prop := ∃ D : DataW Unit, w.ownsMap Try.prog 28 RN b n D ∧ ∀ v : Pv, v.fitsK → D.atKey (kv v) (.lit (.int .i64 0)) = .lit (.int .i64 (f v))
theorem isKeyV (v : Pv) : WideAt.IsKeyLit (kv v) := trivial
theorem VSet.made (w : World) : VSet (w.alloc (.map #[] 0)) w.heap.size 0 (fun _ => false) := ⟨.map [], World.ownsMap_made _ _ _ _, fun _ _ => rfl, fun _ _ => rfl⟩
theorem VNum.made (w : World) : VNum (w.alloc (.map #[] 0)) w.heap.size 0 (fun _ => 0) := ⟨.map [], World.ownsMap_made _ _ _ _, fun _ _ => rfl⟩
section
variable {w w1 : World} {b n : Nat} {S : Pv → Bool} {f : Pv → Int} {o : Option Nat}
theorem VSet.kept (h : VSet w b n S) (k : w.grownBy w1 o) (hne : some b ≠ o) : VSet w1 b n S := by
  obtain ⟨D, h1, h2⟩ := h
  exact ⟨D, h1.kept k hne, h2⟩
theorem VNum.kept (h : VNum w b n f) (k : w.grownBy w1 o) (hne : some b ≠ o) : VNum w1 b n f := by
  obtain ⟨D, h1, h2⟩ := h
  exact ⟨D, h1.kept k hne, h2⟩
theorem VSet.grow (h : VSet w b n S) (k : Below w.heap.size w w1) : VSet w1 b n S := h.kept (grownBy_below k none) (by simp)
theorem VNum.grow (h : VNum w b n f) (k : Below w.heap.size w w1) : VNum w1 b n f := h.kept (grownBy_below k none) (by simp)
theorem VSet.lt (h : VSet w b n S) : b < w.heap.size := by
  obtain ⟨D, h1, _⟩ := h
  exact h1.lt
theorem VNum.lt (h : VNum w b n f) : b < w.heap.size := by
  obtain ⟨D, h1, _⟩ := h
  exact h1.lt
/-- A block of cells is none. -/
theorem VSet.ne {g : Nat} {c : Array Value} {t : TypeId} {fr : Nat × Nat} (h : VSet w b n S) (hg : w.heap[g]? = some (.cells c t fr)) : b ≠ g := by
  rintro rfl
  obtain ⟨D, ⟨es, clock, hb, _⟩, _⟩ := h
  rw [hg] at hb
  cases hb
theorem VNum.ne {g : Nat} {c : Array Value} {t : TypeId} {fr : Nat × Nat} (h : VNum w b n f) (hg : w.heap[g]? = some (.cells c t fr)) : b ≠ g := by
  rintro rfl
  obtain ⟨D, ⟨es, clock, hb, _⟩, _⟩ := h
  rw [hg] at hb
  cases hb
set_option maxRecDepth 100000 in
theorem VSet.look (h : VSet w b n S) {v : Pv} (hv : v.fitsK) : (Instr.lookup 51 (.map (some b)) (vv v) false).run Try.prog w = .ok (.bool (S v)) w := by
  obtain ⟨D, h1, h2, _⟩ := h
  obtain ⟨u, ps, hr, hu⟩ := h1.lookup lawV Try.underlying51 (zeroB w) (plainElem_bool Try.underlying4 false) (keyV hv)
  obtain ⟨x, rfl, hz⟩ := plainB_inv hu
  rw [h2 v hv] at hz
  injection hz with hz _
  injection hz with hz
  injection hz with hz
  rw [hr, hz]
set_option maxRecDepth 100000 in
theorem VNum.look (h : VNum w b n f) {v : Pv} (hv : v.fitsK) : (Instr.lookup 81 (.map (some b)) (vv v) false).run Try.prog w = .ok (.int .i64 (f v)) w := by
  obtain ⟨D, h1, h2⟩ := h
  obtain ⟨c, hr, hat, _⟩ := h1.lookup_int lawV Try.underlying81 Try.underlying3 (zeroN w) (keyV hv)
  rw [h2 v hv] at hat
  injection hat with hat
  injection hat with _ hat
  rw [hr, ← hat]
/-- One value more. -/
theorem SetIs.put {D : DataW Unit} (h : SetIs D S) (hD : IsMap D) {v : Pv} (hv : v.fitsK) : SetIs (D.put (kv v) (.lit (.bool true))) (fun x => decide (x = v) || S x) := by
  refine ⟨fun x hx => ?_, fun x hx => ?_⟩
  · by_cases e : x = v
    · subst e; rw [atKey_put_same hD (isKeyV x)]; simp
    · rw [atKey_put_other (fun h => e (kv_inj hx hv h)), h.1 x hx]; simp [e]
  · by_cases e : x = v
    · subst e; rw [has_put_same hD (isKeyV x)]; simp
    · rw [has_put_other (fun h => e (kv_inj hx hv h)), h.2 x hx]; simp [e]
/-- One value less. -/
theorem SetIs.del {D : DataW Unit} (h : SetIs D S) {v : Pv} (hv : v.fitsK) : SetIs (D.del (kv v)) (fun x => !decide (x = v) && S x) := by
  refine ⟨fun x hx => ?_, fun x hx => ?_⟩
  · by_cases e : x = v
    · subst e; rw [atKey_del_same]; simp
    · rw [atKey_del_other (fun h => e (kv_inj hx hv h)), h.1 x hx]; simp [e]
  · by_cases e : x = v
    · subst e; rw [has_del_same]; simp
    · rw [has_del_other (fun h => e (kv_inj hx hv h)), h.2 x hx]; simp [e]
end
/-- At a walk's operation: a value is put into a set. -/
theorem wpList_setPut {w : World} {ops : Array Oper} {rest : List Oper} {o : Oper} {a : Act} {Q : Exit → Act → World → Prop} (hg : o.guard = none) (m x u : Operand) (hop : o.op = Op.mapUpdate 51 m x u) (b n : Nat) (S : Pv → Bool) (v : Pv)
    (hm : a.eval m = .map (some b)) (hown : VSet w b n S) (hn : n < maxLen) (hv : v.fitsK) (hx : a.eval x = vv v) (hu : a.eval u = .bool true)
    (hK : ∀ w', VSet w' b (n + 1) (fun x => decide (x = v) || S x) → w.grownBy w' (some b) → wpList Try.prog ops Q rest (a.put o.dst undef) w') : wpList Try.prog ops Q (o :: rest) a w := by
  obtain ⟨D, h1, h2⟩ := hown
  refine wpList_mapUpdate_own w hg m x u 51 hop 28 4 lawV Try.underlying51 RB b n D hm h1 hn (vv v) (.bool true) (kv v) hx hu (keyV hv) (.lit (.bool true)) [] (plainElem_bool Try.underlying4 true) fun w' r1 r2 => hK w' ⟨_, r1, h2.put h1.isMap hv⟩ r2
/-- .. is struck. -/
theorem wpList_setDel {w : World} {ops : Array Oper} {rest : List Oper} {o : Oper} {a : Act} {Q : Exit → Act → World → Prop} (hg : o.guard = none) (m x : Operand) (hop : o.op = Op.call { callee := Callee.builtin Builtin.delete, args := #[m, x], argTypes := #[51, 28] }) (b n : Nat) (S : Pv → Bool) (v : Pv)
    (hm : a.eval m = .map (some b)) (hown : VSet w b n S) (hv : v.fitsK) (hx : a.eval x = vv v)
    (hK : ∀ w', VSet w' b n (fun x => !decide (x = v) && S x) → w.grownBy w' (some b) → wpList Try.prog ops Q rest (a.put o.dst (.tuple #[])) w') : wpList Try.prog ops Q (o :: rest) a w := by
  obtain ⟨D, h1, h2⟩ := hown
  refine wpList_delete_own w hg m x 51 28 hop 4 lawV Try.underlying51 RB b n D hm h1 (vv v) (kv v) hx (keyV hv) fun w' r1 r2 => hK w' ⟨_, r1, h2.del hv⟩ r2.grown
/-- A value is given a number. -/
theorem VNum.put {w w1 : World} {b n : Nat} {D : DataW Unit} {f : Pv → Int} {v : Pv} {x : Int} (hown : w.ownsMap Try.prog 28 RN b n D) (h2 : ∀ v : Pv, v.fitsK → D.atKey (kv v) (.lit (.int .i64 0)) = .lit (.int .i64 (f v))) (hv : v.fitsK)
    (h1 : w1.ownsMap Try.prog 28 RN b (n + 1) (D.put (kv v) (.lit (.int .i64 x)))) : VNum w1 b (n + 1) (fun u => if u = v then x else f u) := by
  refine ⟨_, h1, fun u hu => ?_⟩
  by_cases e : u = v
  · subst e; rw [atKey_put_same hown.isMap (isKeyV u)]; simp
  · rw [atKey_put_other (fun h => e (kv_inj hu hv h)), h2 u hu]; simp [e]
end Go.Proofs.Ytdmiljaiglaacaa

/- A map of values' numbers that is asked with 'is it there'. -/
namespace Go.Proofs.Ytdmiljaiglaacaa
open Go.RowKit Go.Maps

def VTab (w : World) (b n : Nat) (f : Pv → Int) (S : Pv → Bool) : Prop :=
  ∃ D : DataW Unit, w.ownsMap Try.prog 28 RN b n D ∧ (∀ v : Pv, v.fitsK → D.atKey (kv v) (.lit (.int .i64 0)) = .lit (.int .i64 (f v))) ∧ ∀ v : Pv, v.fitsK → Maps.has D (kv v) = S v
theorem VTab.made (w : World) : VTab (w.alloc (.map #[] 0)) w.heap.size 0 (fun _ => 0) (fun _ => false) := ⟨.map [], World.ownsMap_made _ _ _ _, fun _ _ => rfl, fun _ _ => rfl⟩
section
variable {w w1 : World} {b n : Nat} {S : Pv → Bool} {f : Pv → Int} {o : Option Nat}
theorem VTab.kept (h : VTab w b n f S) (k : w.grownBy w1 o) (hne : some b ≠ o) : VTab w1 b n f S := by
  obtain ⟨D, h1, h2⟩ := h
  exact ⟨D, h1.kept k hne, h2⟩
theorem VTab.grow (h : VTab w b n f S) (k : Below w.heap.size w w1) : VTab w1 b n f S := h.kept (grownBy_below k none) (by simp)
theorem VTab.lt (h : VTab w b n f S) : b < w.heap.size := by
  obtain ⟨D, h1, _⟩ := h
  exact h1.lt
theorem VTab.ne {g : Nat} {c : Array Value} {t : TypeId} {fr : Nat × Nat} (h : VTab w b n f S) (hg : w.heap[g]? = some (.cells c t fr)) : b ≠ g := by
  rintro rfl
  obtain ⟨D, ⟨es, clock, hb, _⟩, _⟩ := h
  rw [hg] at hb
  cases hb
theorem VTab.same {f' : Pv → Int} {S' : Pv → Bool} (h : VTab w b n f S) (hf : ∀ v, f v = f' v) (hS : ∀ v, S v = S' v) : VTab w b n f' S' := by
  obtain rfl : f = f' := funext hf
  obtain rfl : S = S' := funext hS
  exact h
set_option maxRecDepth 100000 in
theorem VTab.look (h : VTab w b n f S) {v : Pv} (hv : v.fitsK) : (Instr.lookup 81 (.map (some b)) (vv v) true).run Try.prog w = .ok (.tuple #[.int .i64 (f v), .bool (S v)]) w := by
  obtain ⟨D, h1, h2, h3⟩ := h
  obtain ⟨u, ps, hr, hu⟩ := h1.look_ok lawV Try.underlying81 (zeroN w) (plainElem_int Try.underlying3 (by decide)) (keyV hv)
  obtain ⟨c, rfl, hc, _⟩ := plainElem_int_inv Try.underlying3 hu
  have hat := congrArg Prod.fst hc
  dsimp only at hat
  rw [h2 v hv] at hat
  injection hat with hat
  injection hat with _ hat
  rw [hr, h3 v hv, ← hat]
set_option maxRecDepth 100000 in
theorem VTab.look1 (h : VTab w b n f S) {v : Pv} (hv : v.fitsK) : (Instr.lookup 81 (.map (some b)) (vv v) false).run Try.prog w = .ok (.int .i64 (f v)) w := by
  obtain ⟨D, h1, h2, _⟩ := h
  exact VNum.look ⟨D, h1, h2⟩ hv
end
/-- At a walk's operation: a value is given a number. -/
theorem wpList_tabPut {w : World} {ops : Array Oper} {rest : List Oper} {o : Oper} {a : Act} {Q : Exit → Act → World → Prop} (hg : o.guard = none) (m x u : Operand) (hop : o.op = Op.mapUpdate 81 m x u) (b n : Nat) (f : Pv → Int) (S : Pv → Bool) (v : Pv) (y : Int)
    (hm : a.eval m = .map (some b)) (hown : VTab w b n f S) (hn : n < maxLen) (hv : v.fitsK) (hx : a.eval x = vv v) (hu : a.eval u = .int .i64 y) (hy : I64 y)
    (hK : ∀ w', VTab w' b (n + 1) (fun x => if x = v then y else f x) (fun x => decide (x = v) || S x) → w.grownBy w' (some b) → wpList Try.prog ops Q rest (a.put o.dst undef) w') : wpList Try.prog ops Q (o :: rest) a w := by
  obtain ⟨D, h1, h2, h3⟩ := hown
  refine wpList_mapUpdate_own w hg m x u 81 hop 28 3 lawV Try.underlying81 RN b n D hm h1 hn (vv v) (.int .i64 y) (kv v) hx hu (keyV hv) (.lit (.int .i64 y)) [] (plainElem_int Try.underlying3 (wfI.2 hy)) fun w' r1 r2 => hK w' ⟨_, r1, fun x hx => ?_, fun x hx => ?_⟩ r2
  · by_cases e : x = v
    · subst e; rw [atKey_put_same h1.isMap (isKeyV x)]; simp
    · rw [atKey_put_other (fun h => e (kv_inj hx hv h)), h2 x hx]; simp [e]
  · by_cases e : x = v
    · subst e; rw [has_put_same h1.isMap (isKeyV x)]; simp
    · rw [has_put_other (fun h => e (kv_inj hx hv h)), h3 x hx]; simp [e]
end Go.Proofs.Ytdmiljaiglaacaa

/- The walks of layer 28: which values are not too great; what values need. -/
namespace Go.Proofs.Ytdmiljaiglaacaa
open Go.RowKit

def Pv.small (v : Pv) : Bool := !decide (300 < v.text.length + v.cls.length + v.name.length + v.desc.length)
def Pv.few (l : List Pv) : Bool := l.all Pv.small && decide (l.length ≤ 60)
theorem all_take_snoc {α : Type} (p : α → Bool) {l : List α} {i : Nat} {x : α} (h : l[i]? = some x) : (l.take (i + 1)).all p = ((l.take i).all p && p x) := by
  obtain ⟨h1, rfl⟩ := List.getElem?_eq_some_iff.1 h
  rw [List.take_succ_eq_append_getElem h1, List.all_append]
  simp
theorem all_bad {α : Type} (p : α → Bool) {l : List α} {i : Nat} {x : α} (h : l[i]? = some x) (hp : p x = false) : l.all p = false := by
  rw [List.all_eq_false]
  exact ⟨x, List.mem_of_getElem? h, by rw [hp]; simp⟩
end Go.Proofs.Ytdmiljaiglaacaa

/- The walks of layer 19: what values need, the program's and the document's. -/
namespace Go.Proofs.Ytdmiljaiglaacaa
open Go.RowKit

theorem vrow_of_block {w : World} {M base n : Nat} {cs : Array Value} (h : w.heap[M]? = some (.cells cs 28 (0, 0))) (hb : base ≤ M) (xs : List Pv) (hcs : cs.toList = vc xs) (hn : n = xs.length) (hl : xs.length ≤ 1000) : VRow w base (.slice (some ⟨M, 0, none⟩) n n) xs := by
  subst hn
  have hs : cs.size = xs.length * 6 := by rw [← vc_length, ← hcs]; simp
  refine ⟨vc_length xs, .inr ⟨M, xs.length, cs, rfl, hb, h, Nat.le_refl _, by unfold maxLen; omega, hs, ?_⟩⟩
  rw [hcs, ← vc_length]
  exact List.take_length
/-- What is given back: a row of the call's own with these values. -/
def Gives (w : World) (xs : List Pv) (e : Ending) (w' : World) : Prop := ∃ u, e = .returned u ∧ VRow w' w.heap.size u xs ∧ Below w.heap.size w w'

theorem sizeVal : (Try.prog.info? 28).map (·.size) = some 6 := by kernel_rfl
/-- A result that lies in a box. -/
theorem val_ret {fn : Func} {R : Ending → World → Prop} {a : Act} {w : World} {p g : Nat} {v : Pv} (hf : fn.results = #[.cell p 28]) (hp : a.tmps.getD p undef = .pointer (some ⟨g, 0, none⟩)) (hb : VBox w g v) (hR : R (.returned (vv v)) w) (hd : a.defers = [] := by rfl) : bodyPost Try.prog fn R .ret a w :=
  bodyPost_ret (results_cell_row hf _ w g 28 _ _ _ hp hb Try.underlying28 rfl sizeVal) hd hR
set_option maxHeartbeats 1000000 in
theorem text_any (s : List UInt8) (w : World) : Calls Try.prog 45 #[.string (bs s)] w fun e w' => e = .returned (vv (Pv.ofText s)) ∧ Below w.heap.size w w' := by
  go_enter Try.func45, Try.ntmps45
  go_wp2
  exact val_ret (v := Pv.ofText s) rfl rfl (heap_alloc_new _ _)   ⟨rfl, (Below.refl w.heap.size w).alloc (Nat.le_refl _) _⟩
theorem text_raw (s : List UInt8) (w : World) : Calls Try.prog 45 #[.string (bs s)] w fun e w' => e = .returned (.agg #[.int .i64 1, .string (bs s), .int .u64 0, .string ⟨#[]⟩, .string ⟨#[]⟩, .string ⟨#[]⟩]) ∧ Below w.heap.size w w' := text_any s w
theorem wide_any (t : Int) (w : World) : Calls Try.prog 56 #[.int .i64 t] w fun e w' => e = .returned (.bool (t == 5 || t == 6)) ∧ w' = w := by
  go_enter Try.func56, Try.ntmps56
  by_cases h1 : t = 5
  · subst h1
    go_wp2
    go_ret
    exact ⟨rfl, rfl⟩
  · have u1 : (t == 5) = false := by simpa using h1
    have u2 : decide (t = 5) = false := decide_eq_false h1
    go_wp2
    go_ret
    exact ⟨by rw [u1, Bool.false_or]; by_cases h2 : t = 6 <;> simp [h2], rfl⟩

set_option maxHeartbeats 4000000 in
set_option maxRecDepth 100000 in
theorem needs_any (v : Pv) (w : World) : Calls Try.prog 22 #[vv v] w (Gives w v.needs) := by
  obtain ⟨tag, text, bits, cls, name, desc⟩ := v
  unfold vv
  dsimp only
  have k0 := (Below.refl w.heap.size w).alloc (Nat.le_refl _) (.cells #[.int .i64 tag, .string (bs text), .int .u64 bits, .string (bs cls), .string (bs name), .string (bs desc)] 28)
  have q : VBox (w.alloc (.cells #[.int .i64 tag, .string (bs text), .int .u64 bits, .string (bs cls), .string (bs name), .string (bs desc)] 28)) w.heap.size ⟨tag, text, bits, cls, name, desc⟩ := heap_alloc_new _ _
  have other : ¬ (tag = 7 ∨ tag = 8) → ¬ tag = 12 → ¬ (tag = 9 ∨ tag = 10 ∨ tag = 11) → Calls Try.prog 22 #[.agg #[.int .i64 tag, .string (bs text), .int .u64 bits, .string (bs cls), .string (bs name), .string (bs desc)]] w (Gives w []) := by
    intro n1 n2 n3
    have u7 : (tag == 7) = false := by simp; omega
    have u8 : (tag == 8) = false := by simp; omega
    have u12 : (tag == 12) = false := by simp; omega
    have u9 : (tag == 9) = false := by simp; omega
    have u10 : (tag == 10) = false := by simp; omega
    have u11 : (tag == 11) = false := by simp; omega
    have K := Lib.hid k0
    clear q k0
    go_enter Try.func22, Try.ntmps22
    go_wp2
    go_ret
    exact ⟨_, rfl, VRow.nil _ _, K.out⟩
  have one : (tag = 7 ∨ tag = 8) → Calls Try.prog 22 #[.agg #[.int .i64 tag, .string (bs text), .int .u64 bits, .string (bs cls), .string (bs name), .string (bs desc)]] w (Gives w [Pv.ofText text]) := by
    intro h
    have K := Lib.hid k0
    clear q k0 other
    rcases h with rfl | rfl <;>
    · go_enter Try.func22, Try.ntmps22
      go_wp2_with fail
      refine (text_any text _).mono ?_
      rintro e w1 ⟨rfl, hb⟩
      have K1 := Lib.hid (K.out.trans (hb.mono K.out.size))
      unfold vv Pv.ofText
      dsimp only
      clear hb
      go_wp2
      go_ret
      exact ⟨_, rfl, vrow_of_block (heap_alloc_new _ _) K1.out.size [Pv.ofText text] rfl rfl (by simp), K1.out.alloc K1.out.size _⟩
  have pair : tag = 12 → Calls Try.prog 22 #[.agg #[.int .i64 tag, .string (bs text), .int .u64 bits, .string (bs cls), .string (bs name), .string (bs desc)]] w (Gives w [Pv.ofText name, Pv.ofText desc]) := by
    intro h
    subst h
    have K := Lib.hid k0
    clear k0 other one
    go_enter Try.func22, Try.ntmps22
    go_wp2_with fail
    generalize w.alloc (.cells #[.int .i64 12, .string (bs text), .int .u64 bits, .string (bs cls), .string (bs name), .string (bs desc)] 28) = W at q K ⊢
    obtain ⟨c0, c1, c2, c3, c4, c5⟩ := q.at_
    dsimp only at c0 c1 c2 c3 c4 c5
    have zd : w.heap.size < W.drew.heap.size := q.lt
    clear q
    refine wp_region_ord 8 (by kernel_rfl) (by kernel_rfl) (fun _ _ d _ _ h => by cases d <;> exact h) ?_
    simp only [List.take_succ_cons, List.take_zero, List.drop_succ_cons, List.drop_zero]
    repeat (first | (refine wpLex_skip rfl ?_; simp only [Act.put, List.setIfInBounds_toArray, List.set_cons_zero, List.set_cons_succ]) | (refine wpLex_fix rfl ?_; intro F hF R hR hne K hK; go_big_quiet_op; first | (go_big_quiet_on; clear hne hR R hF F) | (apply Exists.intro; refine ⟨fun g => ?_, ?_⟩; (((first | (rw [GrE.cell g _ _ zd]; go_simp; first | exact ⟨rfl, rfl⟩ | rfl) | (go_at_call 45; exact GrE.call hR (text_raw _ _))))); go_big_quiet_on; clear hne hR R hF F)) | (apply wpLex_blk rfl; (focus (intro x hx; go_simp; exact ⟨rfl, rfl⟩)); intro B hB; simp only [Act.put, blkVal, List.setIfInBounds_toArray, List.set_cons_zero, List.set_cons_succ]))
    refine wpLex_nil ?_
    intro w1 hw1
    have F1 := hw1.fact 20 _ _ (.inr ⟨rfl, rfl, rfl⟩)
    have K1 := Lib.hid (Below.after' (Below.drew K.out) hw1.below (Nat.le_refl _))
    have L1 := Lib.hid F1.2
    have hB := F1.1
    clear hw1 F1
    go_wp2
    go_ret
    refine ⟨_, rfl, vrow_of_block L1.out (by have := K.out.size; exact Nat.le_trans this hB) [Pv.ofText name, Pv.ofText desc] ?_ rfl (by simp), K1.out⟩
    rfl
  have memb : (tag = 9 ∨ tag = 10 ∨ tag = 11) → Calls Try.prog 22 #[.agg #[.int .i64 tag, .string (bs text), .int .u64 bits, .string (bs cls), .string (bs name), .string (bs desc)]] w (Gives w [Pv.ofCls cls, Pv.ofPair name desc]) := by
    intro h
    have K := Lib.hid k0
    clear q k0 other one pair
    rcases h with rfl | rfl | rfl <;>
    · go_enter Try.func22, Try.ntmps22
      go_wp2
      go_ret
      refine ⟨_, rfl, vrow_of_block (heap_alloc2_new w _ _) (by omega) [Pv.ofCls cls, Pv.ofPair name desc] ?_ rfl (by simp), K.out.alloc K.out.size _⟩
      rfl
  unfold Pv.needs
  dsimp only
  split
  · rename_i h; exact one h
  · split
    · rename_i h; exact pair h
    · split
      · rename_i h; exact memb h
      · rename_i n1 n2 n3; exact other n1 n2 n3
end Go.Proofs.Ytdmiljaiglaacaa

/- The walks of layer 19: what values need, the document's. -/
namespace Go.Proofs.Ytdmiljaiglaacaa
open Go.RowKit

end Go.Proofs.Ytdmiljaiglaacaa
