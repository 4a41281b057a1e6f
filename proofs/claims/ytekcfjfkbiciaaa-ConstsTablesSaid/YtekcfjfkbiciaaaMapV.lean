/- Maps by values that the call makes. -/
import Derived.Test.YtekcfjfkbiciaaaVals
import Derived.Maps.OwnSet
import Derived.DeepKeys4
namespace Go.Proofs.Ytekcfjfkbiciaaa
open Go.RowKit Go.Maps

theorem laidOutV : laidOutB Try.prog = true := by kernel_rfl
theorem rowV : (25 : TypeId) < Try.prog.types.size := of_decide_eq_true (by kernel_rfl)
theorem wideV : (match Try.prog.underlying 25 with | some (.array _ _) | some (.struct _) => true | _ => false) = true := by rw [Try.underlying25]
theorem deepV : Try.prog.keyTypeAt 2 25 = true := by kernel_rfl
set_option maxRecDepth 100000 in
theorem lawV : Keyed Try.prog 25 := Keyed.of_law (deep_law_laid laidOutV (m := 2) (by omega) rowV deepV wideV)
theorem cellsV : Try.prog.cellsOf 25 = 6 := by kernel_rfl
theorem cellsS : Try.prog.cellsOf 9 = 1 := by kernel_rfl
theorem cellsI : Try.prog.cellsOf 3 = 1 := by kernel_rfl
theorem cellsU : Try.prog.cellsOf 23 = 1 := by kernel_rfl
theorem keyTypeV : Try.prog.keyType 25 = true := by kernel_rfl
theorem succ_of_lt : ∀ {m n : Nat}, m < n → ∃ k, n = k + 1
  | _, 0, h => absurd h (Nat.not_lt_zero _)
  | _, n + 1, _ => ⟨n, rfl⟩
set_option maxRecDepth 100000 in
theorem size_succ : ∃ n, Try.prog.types.size = n + 1 := succ_of_lt rowV
/-- What a value is as a key. -/
def kv (v : Pv) : Lit := .string (keyBytes [.int .i64 v.tag, .string v.text, .int .u64 v.bits, .string v.cls, .string v.name, .string v.desc])
theorem bs_data (l : List UInt8) : (bs l).data.toList = l := by simp [bs]
/-- A value that may be a key. -/
def Pv.fitsK (v : Pv) : Prop := I64 v.tag ∧ v.bits < 18446744073709551616 ∧ v.text.length ≤ maxLen ∧ v.cls.length ≤ maxLen ∧ v.name.length ≤ maxLen ∧ v.desc.length ≤ maxLen
theorem Pv.fits.k {v : Pv} (h : v.fits) : v.fitsK := by
  obtain ⟨h0, h1, h2, h3, h4, h5⟩ := h
  exact ⟨h0, h1, by unfold maxLen; omega, by unfold maxLen; omega, by unfold maxLen; omega, by unfold maxLen; omega⟩
theorem wfI {x : Int} : (Lit.int .i64 x).wf = true ↔ I64 x := by
  unfold I64
  simp [Lit.wf, IntKind.min, IntKind.max, IntKind.signed, IntKind.bits]
theorem wfU {x : Int} : (Lit.int .u64 x).wf = true ↔ 0 ≤ x ∧ x < 18446744073709551616 := by
  simp [Lit.wf, IntKind.min, IntKind.max, IntKind.signed, IntKind.bits]
  omega
theorem keyV {v : Pv} (h : v.fitsK) : keyOf Try.prog 25 (vv v) = some (kv v) := by
  obtain ⟨h0, h1, m2, m3, m4, m5⟩ := h
  have hw0 : (Lit.int .i64 v.tag).wf = true := wfI.2 h0
  have hw1 : (Lit.int .u64 (v.bits : Int)).wf = true := wfU.2 ⟨by omega, by omega⟩
  obtain ⟨n, hs⟩ := size_succ
  unfold keyOf vv
  rw [Try.underlying25]
  simp only [keyTypeV, Value.formed, Try.underlying25, cellsV, hs]
  simp [Program.keyLits, Try.underlying25, Try.underlying3, Try.underlying9, Try.underlying23, cellsV, cellsS, cellsI, cellsU, hw0, hw1, bs_size, m2, m3, m4, m5, kv, Value.cells, bs_data]
theorem vv_inj {a b : Pv} (h : vv a = vv b) : a = b := by
  unfold vv at h
  simp only [Value.agg.injEq, Array.mk.injEq, List.cons.injEq, Value.int.injEq, Value.string.injEq, true_and, and_true] at h
  obtain ⟨h0, h1, h2, h3, h4, h5⟩ := h
  exact (Pv.key_inj (by
    unfold Pv.key
    rw [h0, bs_inj h1, bs_inj h3, bs_inj h4, bs_inj h5, show a.bits = b.bits by omega]))
theorem kv_inj {a b : Pv} (ha : a.fitsK) (hb : b.fitsK) (h : kv a = kv b) : a = b := vv_inj (lawV.inj (keyV ha) (h ▸ keyV hb))
theorem litI {n : Nat} {a : Value} {L : List Lit} (h : Try.prog.keyLits (n + 1) 3 [a] = some L) : ∃ x, a = .int .i64 x ∧ I64 x ∧ L = [.int .i64 x] := by
  cases a <;> simp [Program.keyLits, Try.underlying3] at h
  obtain ⟨⟨rfl, hw⟩, rfl⟩ := h
  exact ⟨_, rfl, wfI.1 hw, rfl⟩
theorem litU {n : Nat} {a : Value} {L : List Lit} (h : Try.prog.keyLits (n + 1) 23 [a] = some L) : ∃ x : Nat, a = .int .u64 x ∧ x < 18446744073709551616 ∧ L = [.int .u64 x] := by
  cases a <;> simp [Program.keyLits, Try.underlying23] at h
  rename_i k x
  obtain ⟨⟨rfl, hw⟩, rfl⟩ := h
  obtain ⟨h1, h2⟩ := wfU.1 hw
  obtain ⟨m, rfl⟩ : ∃ m : Nat, x = (m : Int) := ⟨x.toNat, by omega⟩
  exact ⟨m, rfl, by omega, rfl⟩
theorem litS {n : Nat} {a : Value} {L : List Lit} (h : Try.prog.keyLits (n + 1) 9 [a] = some L) : ∃ x, a = .string (bs x) ∧ x.length ≤ maxLen ∧ L = [.string x] := by
  cases a <;> simp [Program.keyLits, Try.underlying9] at h
  rename_i s
  obtain ⟨hw, rfl⟩ := h
  exact ⟨s.data.toList, rfl, by rw [Array.length_toList]; exact hw, rfl⟩
set_option maxHeartbeats 1000000 in
set_option maxRecDepth 100000 in
theorem keyV_inv {key : Value} {kl : Lit} (h : keyOf Try.prog 25 key = some kl) : ∃ v : Pv, v.fitsK ∧ key = vv v ∧ kl = kv v := by
  obtain ⟨xs, L, rfl, hl, rfl⟩ := keyOf_top wideV h
  obtain ⟨n, hs⟩ := size_succ
  rw [hs] at hl
  obtain ⟨l⟩ := xs
  unfold Program.keyLits at hl
  simp only [Try.underlying25, cellsV] at hl
  split at hl
  · rename_i hc
    have h6 := hc.1
    match l, h6 with
    | [a, b, c, d, e, f], _ =>
      simp only [List.mapM_cons, List.mapM_nil, cellsS, cellsI, cellsU, List.drop_succ_cons, List.drop_zero, List.take_succ_cons, List.take_zero, Option.map_eq_some_iff, Option.bind_eq_bind, Option.bind_eq_some_iff, Option.pure_def, Option.some.injEq] at hl
      obtain ⟨_, ⟨L0, h0, _, ⟨L1, h1, _, ⟨L2, h2, _, ⟨L3, h3, _, ⟨L4, h4, _, ⟨L5, h5, _, rfl, rfl⟩, rfl⟩, rfl⟩, rfl⟩, rfl⟩, rfl⟩, rfl⟩ := hl
      obtain ⟨x0, rfl, g0, rfl⟩ := litI h0
      obtain ⟨x1, rfl, g1, rfl⟩ := litS h1
      obtain ⟨x2, rfl, g2, rfl⟩ := litU h2
      obtain ⟨x3, rfl, g3, rfl⟩ := litS h3
      obtain ⟨x4, rfl, g4, rfl⟩ := litS h4
      obtain ⟨x5, rfl, g5, rfl⟩ := litS h5
      exact ⟨⟨x0, x1, x2, x3, x4, x5⟩, ⟨g0, g2, g1, g3, g4, g5⟩, rfl, rfl⟩
  · cases hl

/-! ### Sets of values -/
theorem zeroB (w : World) : (zeroValue 4).run Try.prog w = .ok (.bool false) w := by kernel_rfl
theorem zeroN (w : World) : (zeroValue 3).run Try.prog w = .ok (.int .i64 0) w := by kernel_rfl
set_option maxRecDepth 100000 in
theorem plainB_inv {v : Value} {z : DataW Unit × List MemPlace} (h : plainElem (H := Unit) Try.prog 4 v = some z) : ∃ x, v = .bool x ∧ z = (.lit (.bool x), []) := by
  unfold plainElem at h
  rw [Try.underlying4] at h
  cases v <;> simp at h
  exact ⟨_, rfl, h.symm⟩
noncomputable abbrev RB := plainElem (H := Unit) Try.prog 4
noncomputable abbrev RN := plainElem (H := Unit) Try.prog 3
def SetIs (D : DataW Unit) (S : Pv → Bool) : Prop := (∀ v : Pv, v.fitsK → D.atKey (kv v) (.lit (.bool false)) = .lit (.bool (S v))) ∧ ∀ v : Pv, v.fitsK → Maps.has D (kv v) = S v
def VSet (w : World) (b n : Nat) (S : Pv → Bool) : Prop := ∃ D : DataW Unit, w.ownsMap Try.prog 25 RB b n D ∧ SetIs D S
def VNum (w : World) (b n : Nat) (f : Pv → Int) : Prop := ∃ D : DataW Unit, w.ownsMap Try.prog 25 RN b n D ∧ ∀ v : Pv, v.fitsK → D.atKey (kv v) (.lit (.int .i64 0)) = .lit (.int .i64 (f v))
theorem isKeyV (v : Pv) : WideAt.IsKeyLit (kv v) := trivial
theorem VSet.made (w : World) : VSet (w.alloc (.map #[] 0)) w.heap.size 0 (fun _ => false) := ⟨.map [], World.ownsMap_made _ _ _ _, fun _ _ => rfl, fun _ _ => rfl⟩
theorem VNum.made (w : World) : VNum (w.alloc (.map #[] 0)) w.heap.size 0 (fun _ => 0) := ⟨.map [], World.ownsMap_made _ _ _ _, fun _ _ => rfl⟩
section
variable {w w1 : World} {b n : Nat} {S : Pv → Bool} {f : Pv → Int} {o : Option Nat}
theorem VSet.kept (h : VSet w b n S) (k : w.grownBy w1 o) (hne : some b ≠ o) : VSet w1 b n S := by
  obtain ⟨D, h1, h2⟩ := h
  exact ⟨D, h1.kept k hne, h2⟩
theorem VNum.kept (h : VNum w b n f) (k : w.grownBy w1 o) (hne : some b ≠ o) : VNum w1 b n f := by
  obtain ⟨D, h1, h2⟩ := h
  exact ⟨D, h1.kept k hne, h2⟩
theorem VSet.grow (h : VSet w b n S) (k : Below w.heap.size w w1) : VSet w1 b n S := h.kept (grownBy_below k none) (by simp)
theorem VNum.grow (h : VNum w b n f) (k : Below w.heap.size w w1) : VNum w1 b n f := h.kept (grownBy_below k none) (by simp)
theorem VSet.lt (h : VSet w b n S) : b < w.heap.size := by
  obtain ⟨D, h1, _⟩ := h
  exact h1.lt
theorem VNum.lt (h : VNum w b n f) : b < w.heap.size := by
  obtain ⟨D, h1, _⟩ := h
  exact h1.lt
/-- A block of cells is none. -/
theorem VSet.ne {g : Nat} {c : Array Value} {t : TypeId} {fr : Nat × Nat} (h : VSet w b n S) (hg : w.heap[g]? = some (.cells c t fr)) : b ≠ g := by
  rintro rfl
  obtain ⟨D, ⟨es, clock, hb, _⟩, _⟩ := h
  rw [hg] at hb
  cases hb
theorem VNum.ne {g : Nat} {c : Array Value} {t : TypeId} {fr : Nat × Nat} (h : VNum w b n f) (hg : w.heap[g]? = some (.cells c t fr)) : b ≠ g := by
  rintro rfl
  obtain ⟨D, ⟨es, clock, hb, _⟩, _⟩ := h
  rw [hg] at hb
  cases hb
set_option maxRecDepth 100000 in
theorem VSet.look (h : VSet w b n S) {v : Pv} (hv : v.fitsK) : (Instr.lookup 41 (.map (some b)) (vv v) false).run Try.prog w = .ok (.bool (S v)) w := by
  obtain ⟨D, h1, h2, _⟩ := h
  obtain ⟨u, ps, hr, hu⟩ := h1.lookup lawV Try.underlying41 (zeroB w) (plainElem_bool Try.underlying4 false) (keyV hv)
  obtain ⟨x, rfl, hz⟩ := plainB_inv hu
  rw [h2 v hv] at hz
  injection hz with hz _
  injection hz with hz
  injection hz with hz
  rw [hr, hz]
set_option maxRecDepth 100000 in
theorem VNum.look (h : VNum w b n f) {v : Pv} (hv : v.fitsK) : (Instr.lookup 56 (.map (some b)) (vv v) false).run Try.prog w = .ok (.int .i64 (f v)) w := by
  obtain ⟨D, h1, h2⟩ := h
  obtain ⟨c, hr, hat, _⟩ := h1.lookup_int lawV Try.underlying56 Try.underlying3 (zeroN w) (keyV hv)
  rw [h2 v hv] at hat
  injection hat with hat
  injection hat with _ hat
  rw [hr, ← hat]
/-- One value more. -/
theorem SetIs.put {D : DataW Unit} (h : SetIs D S) (hD : IsMap D) {v : Pv} (hv : v.fitsK) : SetIs (D.put (kv v) (.lit (.bool true))) (fun x => decide (x = v) || S x) := by
  refine ⟨fun x hx => ?_, fun x hx => ?_⟩
  · by_cases e : x = v
    · subst e; rw [atKey_put_same hD (isKeyV x)]; simp
    · rw [atKey_put_other (fun h => e (kv_inj hx hv h)), h.1 x hx]; simp [e]
  · by_cases e : x = v
    · subst e; rw [has_put_same hD (isKeyV x)]; simp
    · rw [has_put_other (fun h => e (kv_inj hx hv h)), h.2 x hx]; simp [e]
/-- One value less. -/
theorem SetIs.del {D : DataW Unit} (h : SetIs D S) {v : Pv} (hv : v.fitsK) : SetIs (D.del (kv v)) (fun x => !decide (x = v) && S x) := by
  refine ⟨fun x hx => ?_, fun x hx => ?_⟩
  · by_cases e : x = v
    · subst e; rw [atKey_del_same]; simp
    · rw [atKey_del_other (fun h => e (kv_inj hx hv h)), h.1 x hx]; simp [e]
  · by_cases e : x = v
    · subst e; rw [has_del_same]; simp
    · rw [has_del_other (fun h => e (kv_inj hx hv h)), h.2 x hx]; simp [e]
end
/-- At a walk's operation: a value is put into a set. -/
theorem wpList_setPut {w : World} {ops : Array Oper} {rest : List Oper} {o : Oper} {a : Act} {Q : Exit → Act → World → Prop} (hg : o.guard = none) (m x u : Operand) (hop : o.op = Op.mapUpdate 41 m x u) (b n : Nat) (S : Pv → Bool) (v : Pv)
    (hm : a.eval m = .map (some b)) (hown : VSet w b n S) (hn : n < maxLen) (hv : v.fitsK) (hx : a.eval x = vv v) (hu : a.eval u = .bool true)
    (hK : ∀ w', VSet w' b (n + 1) (fun x => decide (x = v) || S x) → w.grownBy w' (some b) → wpList Try.prog ops Q rest (a.put o.dst undef) w') : wpList Try.prog ops Q (o :: rest) a w := by
  obtain ⟨D, h1, h2⟩ := hown
  refine wpList_mapUpdate_own w hg m x u 41 hop 25 4 lawV Try.underlying41 RB b n D hm h1 hn (vv v) (.bool true) (kv v) hx hu (keyV hv) (.lit (.bool true)) [] (plainElem_bool Try.underlying4 true) fun w' r1 r2 => hK w' ⟨_, r1, h2.put h1.isMap hv⟩ r2
/-- .. is struck. -/
theorem wpList_setDel {w : World} {ops : Array Oper} {rest : List Oper} {o : Oper} {a : Act} {Q : Exit → Act → World → Prop} (hg : o.guard = none) (m x : Operand) (hop : o.op = Op.call { callee := Callee.builtin Builtin.delete, args := #[m, x], argTypes := #[41, 25] }) (b n : Nat) (S : Pv → Bool) (v : Pv)
    (hm : a.eval m = .map (some b)) (hown : VSet w b n S) (hv : v.fitsK) (hx : a.eval x = vv v)
    (hK : ∀ w', VSet w' b n (fun x => !decide (x = v) && S x) → w.grownBy w' (some b) → wpList Try.prog ops Q rest (a.put o.dst (.tuple #[])) w') : wpList Try.prog ops Q (o :: rest) a w := by
  obtain ⟨D, h1, h2⟩ := hown
  refine wpList_delete_own w hg m x 41 25 hop 4 lawV Try.underlying41 RB b n D hm h1 (vv v) (kv v) hx (keyV hv) fun w' r1 r2 => hK w' ⟨_, r1, h2.del hv⟩ r2.grown
/-- A value is given a number. -/
theorem VNum.put {w w1 : World} {b n : Nat} {D : DataW Unit} {f : Pv → Int} {v : Pv} {x : Int} (hown : w.ownsMap Try.prog 25 RN b n D) (h2 : ∀ v : Pv, v.fitsK → D.atKey (kv v) (.lit (.int .i64 0)) = .lit (.int .i64 (f v))) (hv : v.fitsK)
    (h1 : w1.ownsMap Try.prog 25 RN b (n + 1) (D.put (kv v) (.lit (.int .i64 x)))) : VNum w1 b (n + 1) (fun u => if u = v then x else f u) := by
  refine ⟨_, h1, fun u hu => ?_⟩
  by_cases e : u = v
  · subst e; rw [atKey_put_same hown.isMap (isKeyV u)]; simp
  · rw [atKey_put_other (fun h => e (kv_inj hu hv h)), h2 u hu]; simp [e]
end Go.Proofs.Ytekcfjfkbiciaaa
