/- Joined texts: Unique, Order, Strs, Vals, Port. -/
import Derived.WalkKit
import Derived.Test.YtdmiljaiglaacaaPk1
import Derived.StillTail
import Derived.Lib.Join
import Derived.Test.YtdmiljaiglaacaaProg
import Derived.Lib.Hide
import Derived.Laws.OwnMore
import Derived.Laws.AppendOwn
/- A call that returns returns one value. No program. -/
namespace Go.Proofs.Ytdmiljaiglaacaa
open Go.RowKit

/-- A caller behind which nothing goes on. -/
def deadEnd (P : Program) : Frame := { fn := P.funcs.size, tmps := #[], todo := [], defers := [], mode := .returning, kind := .report }
theorem step_deadEnd (P : Program) (w : World) : ∃ o, step P (lone (deadEnd P) [] w) = .ended o w := by
  refine ⟨_, step_lone_ended (o := .stuck "report: Error or String returned no string" "") ?_⟩
  simp [stepG, deadEnd, unwind, doReturn]
theorem runN_ended {P : Program} {m : Machine} {o : Outcome} {w : World} (h : step P m = .ended o w) (d : Nat) (m' : Machine) (h2 : runN P (d + 1) m = .next m') : False := by
  simp [runN, h] at h2
theorem Calls.unique {P : Program} {f : FuncId} {args : Array Value} {w : World} {v1 v2 : Value}
    (h1 : Calls P f args w fun e _ => e = .returned v1) (h2 : Calls P f args w fun e _ => e = .returned v2) : v1 = v2 := by
  obtain ⟨e1, w1, fr1, rfl, c1, _, l1⟩ := h1 [deadEnd P]
  obtain ⟨e2, w2, fr2, rfl, c2, _, l2⟩ := h2 [deadEnd P]
  obtain ⟨n1, r1⟩ := c1
  obtain ⟨n2, r2⟩ := c2
  have key : ∀ {n1 n2 : Nat} {fr1 fr2 : Frame} {w1 w2 : World} {v1 v2 : Value}, runN P n1 (lone (Frame.enter P f args .normal) [deadEnd P] w) = .next (lone fr1 [deadEnd P] w1) →
      runN P n2 (lone (Frame.enter P f args .normal) [deadEnd P] w) = .next (lone fr2 [deadEnd P] w2) → fr1.leaving P w1 (.returned v1) → fr2.leaving P w2 (.returned v2) → n1 ≤ n2 → v1 = v2 := by
    intro n1 n2 fr1 fr2 w1 w2 v1 v2 r1 r2 l1 l2 hle
    obtain ⟨d, rfl⟩ := Nat.exists_eq_add_of_le hle
    rw [runN_add, r1] at r2
    have hs := step_leave_returned (c := deadEnd P) (cs := []) l1
    match d, r2 with
    | 0, r2 =>
      simp [runN, lone] at r2
      obtain ⟨rw2, rf⟩ := r2
      subst rw2 rf
      obtain ⟨_, _, _, fn1, hf1, hr1⟩ := l1
      obtain ⟨_, _, _, fn2, hf2, hr2⟩ := l2
      rw [hf1] at hf2
      cases hf2
      rw [hr1] at hr2
      simp at hr2
      exact hr2
    | 1, r2 =>
      have r3 : runN P (0 + 1) (lone fr1 [deadEnd P] w1) = .next (lone fr2 [deadEnd P] w2) := r2
      simp only [runN, hs, Stepped.next.injEq] at r3
      have r4 := congrArg (fun m : Machine => m.gs) r3
      simp [lone] at r4
    | d + 2, r2 =>
      have hf : (deadEnd P).finish v1 = deadEnd P := rfl
      rw [hf] at hs
      obtain ⟨o, ho⟩ := step_deadEnd P w1
      have r3 : runN P ((d + 1) + 1) (lone fr1 [deadEnd P] w1) = .next (lone fr2 [deadEnd P] w2) := r2
      simp only [runN, hs] at r3
      have r2 : runN P (d + 1) (lone (deadEnd P) [] w1) = .next (lone fr2 [deadEnd P] w2) := r3
      exact (runN_ended ho d _ r2).elim
  rcases Nat.le_total n1 n2 with h | h
  · exact key r1 r2 l1 l2 h
  · exact (key r2 r1 l2 l1 h).symm
end Go.Proofs.Ytdmiljaiglaacaa

/- Regions that draw their order: operations that only read, calls that may make memory, and operations that lay a fresh block (alloc, buildSlice), in whatever order; then a tail in one forced order. One walk in the order of the text serves every order. No program. -/
namespace Go.Proofs.Ytdmiljaiglaacaa
open Go.RowKit

/-- What is known of blocks that the region's own operations have laid: by slot. -/
abbrev Env := Nat → Nat → Obj → Prop
def Env.upd (E : Env) (d : Option Nat) (B : Nat) (o : Obj) : Env := fun s C u => E s C u ∨ (d = some s ∧ C = B ∧ u = o)
def Env.only (ops : Array Oper) (o : Oper) (E : Env) : Env := fun s C u => (o.looksAt ops).contains s = true ∧ E s C u
def Env.none : Env := fun _ _ _ => False

/-- All that stood at the region's head is as it was, and the blocks that are known hold what is known. -/
structure Cl (w0 : World) (E : Env) (x : World) : Prop where
  below : Below w0.heap.size w0 x
  fact : ∀ s B o, E s B o → w0.heap.size ≤ B ∧ x.heap[B]? = some o

section
variable {P : Program} {ops : Array Oper} {md : Region.Mode} {Q : Exit → Act → World → Prop} {w0 x y : World} {E F : Env}

theorem Cl.grow (h : Cl w0 E x) (k : Below x.heap.size x y) : Cl w0 E y :=
  ⟨h.below.trans (k.mono h.below.size), fun s B o e => by
    obtain ⟨h1, h2⟩ := h.fact s B o e
    exact ⟨h1, (k.block B (Array.getElem?_eq_some_iff.1 h2).1).trans h2⟩⟩
theorem Cl.sub (h : Cl w0 E x) (hs : ∀ s B o, F s B o → E s B o) : Cl w0 F x := ⟨h.below, fun s B o e => h.fact s B o (hs s B o e)⟩
theorem Cl.only (h : Cl w0 E x) (o : Oper) : Cl w0 (E.only ops o) x := h.sub fun _ _ _ e => e.2
theorem Cl.upd (h : Cl w0 E x) (d : Option Nat) (obj : Obj) : Cl w0 (E.upd d x.heap.size obj) (x.alloc obj) := by
  have hg := h.grow (y := x.alloc obj) ((Below.refl _ _).alloc (Nat.le_refl _) _)
  refine ⟨hg.below, fun s B o e => ?_⟩
  rcases e with e | ⟨_, rfl, rfl⟩
  · exact hg.fact s B o e
  · exact ⟨h.below.size, heap_alloc_new x _⟩

/-- The value of an operation that lays block number B. -/
def blkVal (o : Oper) (B : Nat) : Value := match o.op with | .buildSlice _ n _ => .slice (some ⟨B, 0, none⟩) n n | _ => .pointer (some ⟨B, 0, none⟩)
/-- What an operation comes to: one value; or a fresh block that holds this. -/
abbrev Kind := Value ⊕ Obj
def Kind.res (o : Oper) (k : Kind) (B : Nat) : Value := match k with | .inl v => v | .inr _ => blkVal o B
def Kind.env (o : Oper) (k : Kind) (B : Nat) (E : Env) : Env := match k with | .inl _ => E | .inr obj => E.upd o.dst B obj

def Runs (P : Program) (ops : Array Oper) (w0 : World) (F : Env) (o : Oper) (a : Act) : Kind → Prop
  | .inl v => (Region.wanted o (yielded ops a.tmps) = true ∧ ∀ x, Cl w0 F x → o.quietAt P a (fun y => Below x.heap.size x y) x v) ∨ (Region.wanted o (yielded ops a.tmps) = false ∧ v = undef)
  | .inr obj => Region.wanted o (yielded ops a.tmps) = true ∧ ∀ x, Cl w0 F x → (execOp a.eval o).run P x = .ok (.value (blkVal o x.heap.size)) (x.alloc obj)

theorem alloc_ne (x : World) (o : Obj) : x.alloc o ≠ x := fun h => by
  have := congrArg (fun w : World => w.heap.size) h
  simp at this
theorem alloc_inj {x : World} {o1 o2 : Obj} (h : x.alloc o1 = x.alloc o2) : o1 = o2 := by
  have h1 := heap_alloc_new x o1
  rw [h, heap_alloc_new x o2] at h1
  exact (Option.some.inj h1).symm

theorem quietUpon_det {C D : World → Prop} {v u : Value} {r : Result Next} (h1 : Oper.quietUpon P C x v r) (h2 : Oper.quietUpon P D x u r) : v = u := by
  cases r with
  | ok n w' =>
    cases n <;> simp only [Oper.quietUpon] at h1 h2
    case value => rw [← h1.2, ← h2.2]
    case skip => rw [h1.2, h2.2]
    case enter f args =>
      obtain ⟨rfl, c1⟩ := h1
      exact Calls.unique (c1.mono fun _ _ h => h.1) (h2.2.mono fun _ _ h => h.1)
  | halt => simp only [Oper.quietUpon] at h1

theorem Runs.det {o : Oper} {a : Act} : ∀ {k1 k2 : Kind}, Runs P ops w0 F o a k1 → Runs P ops w0 F o a k2 → Cl w0 F x → k1 = k2
  | .inl v, .inl u, h1, h2, hx => by
    rcases h1 with ⟨w1, h1⟩ | ⟨w1, h1⟩ <;> rcases h2 with ⟨w2, h2⟩ | ⟨w2, h2⟩
    · exact congrArg _ (quietUpon_det (h1 x hx) (h2 x hx))
    · rw [w1] at w2; cases w2
    · rw [w1] at w2; cases w2
    · rw [h1, h2]
  | .inl v, .inr o2, h1, h2, hx => by
    rcases h1 with ⟨w1, h1⟩ | ⟨w1, h1⟩
    · have := h1 x hx
      unfold Oper.quietAt at this
      rw [h2.2 x hx] at this
      exact absurd this.1 (alloc_ne x o2)
    · have := h2.1; rw [w1] at this; cases this
  | .inr o1, .inl u, h1, h2, hx => by
    rcases h2 with ⟨w2, h2⟩ | ⟨w2, h2⟩
    · have := h2 x hx
      unfold Oper.quietAt at this
      rw [h1.2 x hx] at this
      exact absurd this.1 (alloc_ne x o1)
    · have := h1.1; rw [w2] at this; cases this
  | .inr o1, .inr o2, h1, h2, hx => by
    have := (h1.2 x hx).symm.trans (h2.2 x hx)
    simp only [Result.ok.injEq] at this
    exact congrArg _ (alloc_inj this.2)

theorem Runs.put {o : Oper} {a : Act} {dst : Option Tmp} {u : Value} (hs : ∀ cs b, o.op ≠ .select cs b) (h : ∀ d, dst = some d → d ∉ o.looksAt ops) (k : Kind) : Runs P ops w0 F o (a.put dst u) k ↔ Runs P ops w0 F o a k := by
  cases k <;> simp only [Runs, Oper.quietAt, execOp_put o hs a dst u h, wanted_put o a dst u h]
theorem Env.only_env {oi oj : Oper} (k : Kind) (B : Nat) (h : ∀ d, oi.dst = some d → d ∉ oj.looksAt ops) : (k.env oi B E).only ops oj = E.only ops oj := by
  cases k with
  | inl v => rfl
  | inr obj =>
    funext s C u
    apply propext
    exact ⟨fun ⟨h1, h2⟩ => ⟨h1, h2.resolve_right fun h3 => h s h3.1 (by simpa using h1)⟩, fun ⟨h1, h2⟩ => ⟨h1, .inl h2⟩⟩
theorem Kind.env_comm {oi oj : Oper} (ki kj : Kind) (Bi Bj : Nat) : ki.env oi Bi (kj.env oj Bj E) = kj.env oj Bj (ki.env oi Bi E) := by
  cases ki with
  | inl _ => rfl
  | inr obi =>
    cases kj with
    | inl _ => rfl
    | inr obj =>
      funext s C u
      apply propext
      exact ⟨fun h => by rcases h with (h | h) | h <;> simp [Kind.env, Env.upd, h], fun h => by rcases h with (h | h) | h <;> simp [Kind.env, Env.upd, h]⟩
theorem Kind.env_le (o : Oper) (k : Kind) (B : Nat) (s C : Nat) (u : Obj) (h : E s C u) : k.env o B E s C u := by
  cases k with
  | inl _ => exact h
  | inr _ => exact .inl h

theorem Runs.wpOp {i : Nat} {o : Oper} {a : Act} {k : Kind} (hi : ops[i]? = some o) (h : Runs P ops w0 (E.only ops o) o a k) (hx : Cl w0 E x) {K : Act → World → Prop}
    (hK : ∀ B y, w0.heap.size ≤ B → Cl w0 (k.env o B E) y → K (a.put o.dst (k.res o B)) y) : Go.wpOp P ops Q i K a x := by
  unfold Go.wpOp
  simp only [hi]
  cases k with
  | inl v =>
    have hK' := fun y hy => hK w0.heap.size y (Nat.le_refl _) hy
    rcases h with ⟨hw, hv⟩ | ⟨hw, rfl⟩
    · rw [if_pos hw]
      refine .inl ?_
      have h3 := hv x (hx.only o)
      unfold Oper.quietAt at h3
      unfold Oper.wp
      generalize (execOp a.eval o).run P x = r at *
      cases r with
      | ok n w' =>
        cases n <;> simp only [Oper.quietUpon] at h3 <;> simp only [Oper.upon]
        case value u => obtain ⟨rfl, rfl⟩ := h3; exact hK' _ hx
        case skip => obtain ⟨rfl, rfl⟩ := h3; exact hK' _ hx
        case enter f args =>
          obtain ⟨rfl, hc⟩ := h3
          exact hc.mono fun e w'' ⟨he, hw''⟩ => by subst he; exact hK' _ (hx.grow hw'')
      | halt => simp only [Oper.quietUpon] at h3
    · rw [if_neg (by rw [hw]; decide)]
      exact hK' x hx
  | inr obj =>
    rw [if_pos h.1]
    refine .inl ?_
    unfold Oper.wp
    rw [h.2 x (hx.only o)]
    exact hK x.heap.size _ hx.below.size (hx.upd o.dst obj)

/-- An operation that asks nothing of the world. -/
def lateB (o : Oper) : Bool := match o.op with | .extract _ _ => true | .move _ => true | _ => false
theorem late_run (o : Oper) (h : lateB o = true) (ρ : Operand → Value) : (∃ v, ∀ x, (execOp ρ o).run P x = .ok (.value v) x) ∨ (∀ x, ∃ hh, (execOp ρ o).run P x = .halt hh x) := by
  unfold lateB at h
  split at h
  · rename_i t i ho
    unfold execOp
    rw [ho]
    simp only [Instr.extract]
    split
    · split
      · exact .inl ⟨_, fun x => rfl⟩
      · exact .inr fun x => ⟨_, rfl⟩
    · exact .inr fun x => ⟨_, rfl⟩
  · rename_i t ho
    refine .inl ⟨ρ t, fun x => ?_⟩
    unfold execOp; rw [ho]; rfl
  · cases h
theorem late_yields {o : Oper} {a : Act} {k : Kind} (h : lateB o = true) (hr : Runs P ops w0 F o a k) (hx : Cl w0 F x) : ∃ v, k = .inl v ∧ Yields P ops o v a := by
  cases k with
  | inl v =>
    refine ⟨v, rfl, ?_⟩
    rcases hr with ⟨hw, hv⟩ | hr
    · refine .inl ⟨hw, ?_⟩
      have := hv x hx
      unfold Oper.quietAt at this
      rcases late_run (P := P) o h a.eval with ⟨u, hu⟩ | hu
      · rw [hu x] at this
        simp only [Oper.quietUpon] at this
        rw [← this.2]
        exact hu
      · obtain ⟨hh, e⟩ := hu x
        rw [e] at this
        simp only [Oper.quietUpon] at this
    · exact .inr hr
  | inr obj =>
    have := hr.2 x hx
    rcases late_run (P := P) o h a.eval with ⟨u, hu⟩ | hu
    · rw [hu x] at this
      simp only [Result.ok.injEq] at this
      exact absurd this.2.symm (alloc_ne x obj)
    · obtain ⟨hh, e⟩ := hu x
      rw [e] at this
      cases this

/-- Whatever order is picked while operations of the head (the first n) are to come; 'g': how many there are behind the head. -/
def AO (P : Program) (md : Region.Mode) (ops : Array Oper) (Q : Exit → Act → World → Prop) (w0 : World) (n g : Nat) : Nat → Array Bool → Env → Act → Prop
  | 0, listed, E, a => ∀ w, Cl w0 E w → (∀ j ∈ Region.ready md ops listed, n ≤ j) ∧ wpAny P md ops Q g listed a w
  | f + 1, listed, E, a => ∀ w, Cl w0 E w → Region.ready md ops listed ≠ [] ∧
      (∀ j ∈ Region.ready md ops listed, j < n → ∃ o k, ops[j]? = some o ∧ Runs P ops w0 (E.only ops o) o a k ∧
        ∀ B, w0.heap.size ≤ B → AO P md ops Q w0 n g f (listed.setIfInBounds j true) (k.env o B E) (a.put o.dst (k.res o B))) ∧
      ((∃ j ∈ Region.ready md ops listed, n ≤ j) → wpAny P md ops Q (f + 1 + g) listed a w)

theorem AO.any {n g : Nat} : ∀ (f : Nat) (listed : Array Bool) (E : Env) (a : Act) (w : World), AO P md ops Q w0 n g f listed E a → Cl w0 E w → wpAny P md ops Q (f + g) listed a w
  | 0, listed, E, a, w, h, hw => by rw [Nat.zero_add]; exact (h w hw).2
  | f + 1, listed, E, a, w, h, hw => by
    obtain ⟨hne, hA, hB⟩ := h w hw
    by_cases ht : ∃ j ∈ Region.ready md ops listed, n ≤ j
    · exact hB ht
    · have e : f + 1 + g = (f + g) + 1 := by omega
      rw [e]
      refine ⟨fun h0 => absurd h0 hne, fun j hj => ?_⟩
      have hjn : j < n := Nat.lt_of_not_le fun hh => ht ⟨j, hj, hh⟩
      obtain ⟨o, k, ho, hr, hk⟩ := hA j hj hjn
      exact hr.wpOp ho hw fun B y hB hy => AO.any f _ _ _ y (hk B hB) hy

/-- What has come up has had all that it waits for. -/
def Closed (md : Region.Mode) (ops : Array Oper) (listed : Array Bool) : Prop :=
  ∀ (j : Nat) oj, ops[j]? = some oj → listed.getD j false = true → ∀ e ∈ oj.after, Region.binds md e = true → listed.getD e.on false = true
theorem getD_set_true {listed : Array Bool} {i : Nat} (h : i < listed.size) (d : Bool) : (listed.setIfInBounds i true).getD i d = true := by
  simp [Array.getD, h]
theorem getD_set_mono {listed : Array Bool} {i j : Nat} (h : listed.getD j false = true) : (listed.setIfInBounds i true).getD j false = true := by
  by_cases e : i = j
  · subst e
    by_cases hs : i < listed.size
    · exact getD_set_true hs false
    · rw [Array.setIfInBounds_eq_of_size_le (by omega)]; exact h
  · rw [getD_set_ne false e]; exact h
theorem Closed.set {listed : Array Bool} {i : Nat} (h : Closed md ops listed) (hr : i ∈ Region.ready md ops listed) : Closed md ops (listed.setIfInBounds i true) := by
  intro j oj hoj hl e he hb
  obtain ⟨_, o, ho, hall⟩ := mem_ready.1 hr
  by_cases eij : i = j
  · subst eij
    rw [hoj] at ho
    cases ho
    exact getD_set_mono (hall e he hb)
  · rw [getD_set_ne false eij] at hl
    exact getD_set_mono (h j oj hoj hl e he hb)
theorem Closed.none (n : Nat) : Closed md ops (Array.replicate n false) := by
  intro j oj _ hl
  exfalso
  simp [Array.getD] at hl
/-- t waits for i, itself or through others. -/
def waitsT (md : Region.Mode) (ops : Array Oper) : Nat → Nat → Nat → Bool
  | 0, t, i => Region.waitsFor md ops t i
  | f + 1, t, i => Region.waitsFor md ops t i || (match ops[t]? with | some ot => ot.after.any fun e => Region.binds md e && waitsT md ops f e.on i | none => false)
theorem waitsT_listed {listed : Array Bool} (hc : Closed md ops listed) {i : Nat} : ∀ (f t : Nat), waitsT md ops f t i = true → (∀ ot, ops[t]? = some ot → ∀ e ∈ ot.after, Region.binds md e = true → listed.getD e.on false = true) → listed.getD i false = true
  | 0, t, h, ha => by
    obtain ⟨ot, hot, e, he, hb, hon⟩ := Region.waitsFor_spec h
    rw [← hon]; exact ha ot hot e he hb
  | f + 1, t, h, ha => by
    unfold waitsT at h
    rw [Bool.or_eq_true] at h
    rcases h with h | h
    · obtain ⟨ot, hot, e, he, hb, hon⟩ := Region.waitsFor_spec h
      rw [← hon]; exact ha ot hot e he hb
    · split at h
      · rename_i ot hot
        obtain ⟨e, he, hb⟩ := Array.any_eq_true'.1 h
        rw [Bool.and_eq_true] at hb
        have hl := ha ot hot e he hb.1
        exact waitsT_listed hc f e.on hb.2 fun oj hoj e' he' hb' => hc e.on oj hoj hl e' he' hb'
      · cases h

/-- An operation of the head that may come up may be taken first. -/
theorem AO.first {n g i : Nat} {oi : Oper} {ki : Kind} (hi : ops[i]? = some oi) (hin : i < n) (hsel : ∀ (j : Nat) (o : Oper) cs b, ops[j]? = some o → o.op ≠ .select cs b)
    (hQ : ∀ c a v w, Q (.panic c) (a.put oi.dst v) w → Q (.panic c) a w)
    (hlate : ∀ (t : Nat) (ot : Oper), n ≤ t → ops[t]? = some ot → (∃ f, waitsT md ops f t i = true) ∨ lateB oi = true) (f : Nat) :
    ∀ (listed : Array Bool) (E : Env) (a : Act), Closed md ops listed →
      (∀ j oj, ops[j]? = some oj → j ≠ i → listed.getD j true = false → (∀ e ∈ oj.after, Region.binds md e = true → e.on ≠ i) → oi.apart ops oj = true) →
      i ∈ Region.ready md ops listed → Runs P ops w0 (E.only ops oi) oi a ki →
      (∀ B, w0.heap.size ≤ B → AO P md ops Q w0 n g f (listed.setIfInBounds i true) (ki.env oi B E) (a.put oi.dst (ki.res oi B))) → AO P md ops Q w0 n g (f + 1) listed E a := by
  -- at a tail's operation that comes up while this one is to come: this one asks nothing of the world
  have tail : ∀ (f : Nat) (listed : Array Bool) (E : Env) (a : Act) (w : World), Closed md ops listed → Cl w0 E w →
      (∀ j oj, ops[j]? = some oj → j ≠ i → listed.getD j true = false → (∀ e ∈ oj.after, Region.binds md e = true → e.on ≠ i) → oi.apart ops oj = true) →
      i ∈ Region.ready md ops listed → Runs P ops w0 (E.only ops oi) oi a ki →
      (∀ B, w0.heap.size ≤ B → AO P md ops Q w0 n g f (listed.setIfInBounds i true) (ki.env oi B E) (a.put oi.dst (ki.res oi B))) →
      (∃ j ∈ Region.ready md ops listed, n ≤ j) → wpAny P md ops Q (f + 1 + g) listed a w := by
    intro f listed E a w hcl hw hfree hr hy H ht
    obtain ⟨t, htr, htn⟩ := ht
    obtain ⟨_, ot, hot, hall⟩ := mem_ready.1 htr
    have hla : lateB oi = true := by
      rcases hlate t ot htn hot with ⟨f, hf⟩ | h
      · have h1 := waitsT_listed hcl f t hf fun ot' hot' => by
          rw [hot] at hot'; cases hot'; exact hall
        rw [getD_both (mem_ready.1 hr).1] at h1
        cases h1
      · exact h
    obtain ⟨v, rfl, hyl⟩ := late_yields hla hy (hw.only oi)
    have h1 := AO.any f _ _ _ w (H w0.heap.size (Nat.le_refl _)) hw
    have e : f + 1 + g = (f + g) + 1 := by omega
    rw [e]
    exact wpAny_first hi hsel (fun c a w => hQ c a v w) (f + g) listed a w hfree hr hyl h1
  induction f with
  | zero =>
    intro listed E a hcl hfree hr hy H w hw
    refine ⟨fun h => (by rw [h] at hr; cases hr), fun j hj hjn => ?_, tail 0 listed E a w hcl hw hfree hr hy H⟩
    by_cases hji : j = i
    · subst hji
      exact ⟨oi, ki, hi, hy, H⟩
    · -- no other operation of the head is left
      exfalso
      have hx : ∃ B w', w0.heap.size ≤ B ∧ Cl w0 (ki.env oi B E) w' := by
        cases ki with
        | inl v => exact ⟨w0.heap.size, w, Nat.le_refl _, hw⟩
        | inr obj => exact ⟨w.heap.size, _, hw.below.size, hw.upd oi.dst obj⟩
      obtain ⟨B, w', hB, hw'⟩ := hx
      have := (H B hB w' hw').1 j (ready_mono hj hji)
      omega
  | succ f ih =>
    intro listed E a hcl0 hfree hr hy H w hw
    refine ⟨fun h => (by rw [h] at hr; cases hr), fun j hj hjn => ?_, tail (f + 1) listed E a w hcl0 hw hfree hr hy H⟩
    by_cases hji : j = i
    · subst hji
      exact ⟨oi, ki, hi, hy, H⟩
    · have hx : ∃ B w', w0.heap.size ≤ B ∧ Cl w0 (ki.env oi B E) w' := by
        cases ki with
        | inl v => exact ⟨w0.heap.size, w, Nat.le_refl _, hw⟩
        | inr obj => exact ⟨w.heap.size, _, hw.below.size, hw.upd oi.dst obj⟩
      obtain ⟨B0, w1, hB0, hw1⟩ := hx
      obtain ⟨hjun, oj, hoj, hall⟩ := mem_ready.1 hj
      have hap : oi.apart ops oj = true := hfree j oj hoj hji hjun fun e he hb heq => by
        have h1 := hall e he hb
        rw [heq, getD_both (mem_ready.1 hr).1] at h1
        cases h1
      obtain ⟨ap1, ap2, ap3⟩ := Oper.apart_spec hap
      have hj' := ready_mono hj hji
      obtain ⟨oj', kj, hoj', hrj, _⟩ := (H B0 hB0 w1 hw1).2.1 j hj' hjn
      rw [hoj] at hoj'
      cases hoj'
      rw [Env.only_env ki B0 ap1, Runs.put (hsel j oj · · hoj) ap1] at hrj
      refine ⟨oj, kj, hoj, hrj, fun Bj hBj => ?_⟩
      refine ih (listed.setIfInBounds j true) (kj.env oj Bj E) (a.put oj.dst (kj.res oj Bj)) (hcl0.set hj) (fun k ok hk hki hkun hno => ?_) (ready_mono hr (Ne.symm hji)) ?_ fun Bi hBi => ?_
      · refine hfree k ok hk hki ?_ hno
        by_cases hjk : j = k
        · subst hjk
          exact hjun
        · rwa [getD_set_ne true hjk] at hkun
      · rw [Env.only_env kj Bj ap3, Runs.put (hsel i oi · · hi) ap3]
        exact hy
      · -- from what is known behind 'i', at any world of the class
        have big : ∀ w', Cl w0 (ki.env oi Bi E) w' → AO P md ops Q w0 n g f ((listed.setIfInBounds i true).setIfInBounds j true) (kj.env oj Bj (ki.env oi Bi E)) ((a.put oi.dst (ki.res oi Bi)).put oj.dst (kj.res oj Bj)) := by
          intro w' hw'
          obtain ⟨oj', kj', hoj', hrj', hk'⟩ := (H Bi hBi w' hw').2.1 j hj' hjn
          rw [hoj] at hoj'
          cases hoj'
          rw [Env.only_env ki Bi ap1, Runs.put (hsel j oj · · hoj) ap1] at hrj'
          have hcl : Cl w0 (E.only ops oj) w' := by
            have := hw'.only (ops := ops) oj
            rwa [Env.only_env ki Bi ap1] at this
          have hkk : kj' = kj := Runs.det hrj' hrj hcl
          subst hkk
          exact hk' Bj hBj
        have conv : AO P md ops Q w0 n g f ((listed.setIfInBounds j true).setIfInBounds i true) (ki.env oi Bi (kj.env oj Bj E)) ((a.put oj.dst (kj.res oj Bj)).put oi.dst (ki.res oi Bi)) ↔
            AO P md ops Q w0 n g f ((listed.setIfInBounds i true).setIfInBounds j true) (kj.env oj Bj (ki.env oi Bi E)) ((a.put oi.dst (ki.res oi Bi)).put oj.dst (kj.res oj Bj)) := by
          rw [Kind.env_comm ki kj Bi Bj, Array.setIfInBounds_comm _ _ (fun e => hji e), ← Act.put_comm a _ _ ap2]
        rw [conv]
        -- the statement asks for every world of the class: take that world
        have sub : ∀ w', Cl w0 (kj.env oj Bj (ki.env oi Bi E)) w' → Cl w0 (ki.env oi Bi E) w' := fun w' hw' => hw'.sub fun s C u hs => Kind.env_le oj kj Bj s C u hs
        cases f with
        | zero => exact fun w' hw' => big w' (sub w' hw') w' hw'
        | succ f => exact fun w' hw' => big w' (sub w' hw') w' hw'

/-! ### The order of the text -/
/-- The first n operations in the order of the text (each may come up then, and nobody that is to come touches what it reads or writes), then the others in one forced order; those wait for every one of the first that asks something of the world. -/
def ordHead (md : Region.Mode) (ops : Array Oper) (g : Nat) : Nat → Nat → Array Bool → Bool
  | 0, k, listed => Region.seqB md ops g k listed && (Region.ready md ops listed).all fun j => decide (k ≤ j)
  | f + 1, k, listed => (Region.ready md ops listed).contains k && Region.free md ops listed k && ordHead md ops g f (k + 1) (listed.setIfInBounds k true)
def ordLate (md : Region.Mode) (ops : Array Oper) (n : Nat) : Bool :=
  (List.range n).all fun i => (match ops[i]? with | some oi => lateB oi | none => false) || (List.range ops.size).all fun t => decide (t < n) || waitsT md ops 5 t i
def ordB (md : Region.Mode) (ops : Array Oper) (n : Nat) : Bool :=
  Region.noSelect ops && decide (n ≤ ops.size) && ordLate md ops n && ordHead md ops (ops.size - n) n 0 (Array.replicate ops.size false)
theorem ordLate_spec {n : Nat} (h : ordLate md ops n = true) {i : Nat} (hi : i < n) {oi : Oper} (hoi : ops[i]? = some oi) (t : Nat) (ot : Oper) (ht : n ≤ t) (hot : ops[t]? = some ot) :
    (∃ f, waitsT md ops f t i = true) ∨ lateB oi = true := by
  have h1 := List.all_eq_true.1 h i (List.mem_range.2 hi)
  simp only [hoi, Bool.or_eq_true] at h1
  rcases h1 with h1 | h1
  · exact .inr h1
  · have h2 := List.all_eq_true.1 h1 t (List.mem_range.2 (Array.getElem?_eq_some_iff.1 hot).1)
    simp only [Bool.or_eq_true, decide_eq_true_eq] at h2
    rcases h2 with h2 | h2
    · omega
    · exact .inl ⟨5, h2⟩

def wpLex (P : Program) (ops : Array Oper) (Q : Exit → Act → World → Prop) (w0 : World) (tail : List Oper) : List Oper → Env → Act → Prop
  | [], E, a => ∀ x, Cl w0 E x → wpList P ops Q tail a x
  | o :: rest, E, a => (∃ x, Cl w0 E x) → ∃ k, Runs P ops w0 (E.only ops o) o a k ∧ ∀ B, w0.heap.size ≤ B → wpLex P ops Q w0 tail rest (k.env o B E) (a.put o.dst (k.res o B))

theorem AO.lex {n g : Nat} {tail : List Oper} (hsel : Region.noSelect ops = true) (hQ : ∀ c a d v w, Q (.panic c) (a.put d v) w → Q (.panic c) a w) (hl : ordLate md ops n = true) (htail : ∀ j, tail[j]? = ops[n + j]?) (hg : tail.length = g) :
    ∀ (l : List Oper) (k : Nat) (listed : Array Bool) (E : Env) (a : Act), Closed md ops listed → (∀ j, j < l.length → l[j]? = ops[k + j]?) → k + l.length = n → ordHead md ops g l.length k listed = true →
    wpLex P ops Q w0 tail l E a → AO P md ops Q w0 n g l.length listed E a
  | [], k, listed, E, a, _, _, hk, hB, h => by
    have hkn : k = n := by simpa using hk
    subst hkn
    simp only [List.length_nil, ordHead, Bool.and_eq_true] at hB
    refine fun w hw => ⟨fun j hj => by simpa using List.all_eq_true.1 hB.2 j hj, ?_⟩
    subst hg
    exact wpAny_of_seq tail k listed a w htail hB.1 (h w hw)
  | o :: l, k, listed, E, a, hcl, hll, hk, hB, h => by
    simp only [List.length_cons] at hk
    simp only [List.length_cons, ordHead, Bool.and_eq_true] at hB
    have h0 : ops[k]? = some o := by simpa using (hll 0 (by simp)).symm
    by_cases hne : ∃ x, Cl w0 E x
    · obtain ⟨kd, hr, hrest⟩ := h hne
      refine AO.first h0 (by omega) (Region.noSelect_spec hsel) (fun c a v w => hQ c a o.dst v w) (fun t ot ht hot => ordLate_spec hl (by omega) h0 t ot ht hot) l.length listed E a hcl (Region.free_spec h0 hB.1.2) (by simpa using hB.1.1) hr fun B hBB => ?_
      exact AO.lex hsel hQ hl htail hg l (k + 1) _ _ _ (hcl.set (by simpa using hB.1.1)) (fun j hj => by have := hll (j + 1) (by simp; omega); simpa [Nat.add_assoc, Nat.add_comm 1 j] using this) (by omega) hB.2 (hrest B hBB)
    · exact fun w hw => absurd ⟨w, hw⟩ hne

theorem wp_region_ord {id : Nat} {a : Act} {w : World} {l : List Oper} (n : Nat) (hm : P.follows .mixedOrders = true) (hB : ordB .any l.toArray n = true)
    (hQ : ∀ c a d v w, Q (.panic c) (a.put d v) w → Q (.panic c) a w)
    (h : wpLex P l.toArray Q w.drew (l.drop n) (l.take n) Env.none a) : (Code.region id l.toArray true).wp P Q a w := by
  simp only [ordB, Bool.and_eq_true, decide_eq_true_eq] at hB
  obtain ⟨⟨⟨hsel, hn⟩, hl⟩, hh⟩ := hB
  have hn' : n ≤ l.length := by simpa using hn
  have htl : (l.take n).length = n := by simp; omega
  have hdl : (l.drop n).length = l.toArray.size - n := by simp
  have H := AO.lex (md := .any) (g := l.toArray.size - n) hsel hQ hl (fun j => by simp [List.getElem?_drop]) hdl (l.take n) 0 _ Env.none a (Closed.none _) (fun j hj => by
    have hj' : j < n := by rw [htl] at hj; exact hj
    simp [hj']) (by simpa using htl) (by rw [htl]; exact hh) h
  refine wp_region_any hm ?_
  have := AO.any _ _ _ _ w.drew H ⟨Below.refl _ _, fun s B o e => e.elim⟩
  rw [htl, show n + (l.toArray.size - n) = l.toArray.size by omega] at this
  exact this

/-! ### The moves of a walk -/
variable {tail rest : List Oper} {o : Oper} {a : Act}
/-- What stays so when memory grows. -/
def GrowsUp (R : World → Prop) : Prop := ∀ x y, R x → Below x.heap.size x y → R y
def GrE (w0 : World) (F : Env) (R : World → Prop) : Type := { x : World // Cl w0 F x ∧ R x }
@[go_sem] theorem GrE.cell {R : World → Prop} (g : GrE w0 F R) (b o : Nat) (h : b < w0.heap.size) : g.1.cell? ⟨b, o, none⟩ = w0.cell? ⟨b, o, none⟩ := g.2.1.below.cell (p := ⟨b, o, none⟩) h
@[go_sem] theorem GrE.frozen {R : World → Prop} (g : GrE w0 F R) (b o : Nat) (h : b < w0.heap.size) : g.1.frozen? ⟨b, o, none⟩ = w0.frozen? ⟨b, o, none⟩ := g.2.1.below.frozen (p := ⟨b, o, none⟩) h
theorem GrE.blk {R : World → Prop} (g : GrE w0 F R) {s B : Nat} {o : Obj} (h : F s B o) : g.1.heap[B]? = some o := (g.2.1.fact s B o h).2
theorem GrE.below {R : World → Prop} (g : GrE w0 F R) : Below w0.heap.size w0 g.1 := g.2.1.below
theorem GrE.call {R : World → Prop} (hR : GrowsUp R) {f : FuncId} {args : Array Value} {g : GrE w0 F R} {v : Value} (h : Calls P f args g.1 fun e w' => e = .returned v ∧ Below g.1.heap.size g.1 w') :
    Calls P f args g.1 fun e w' => e = .returned v ∧ ∃ k : GrE w0 F R, w' = k.1 :=
  h.mono fun _ w' ⟨he, hb⟩ => ⟨he, ⟨w', g.2.1.grow hb, hR _ _ g.2.2 hb⟩, rfl⟩
theorem GrE.same {R : World → Prop} {f : FuncId} {args : Array Value} {g : GrE w0 F R} {v : Value} (h : Calls P f args g.1 fun e w' => e = .returned v ∧ g.1 = w') :
    Calls P f args g.1 fun e w' => e = .returned v ∧ ∃ k : GrE w0 F R, w' = k.1 :=
  h.mono fun _ _ ⟨he, hb⟩ => ⟨he, g, hb.symm⟩

theorem quietUpon_mono {C D : World → Prop} {v : Value} {r : Result Next} (hCD : ∀ y, C y → D y) (h : Oper.quietUpon P C x v r) : Oper.quietUpon P D x v r := by
  cases r with
  | ok n w' =>
    cases n <;> simp only [Oper.quietUpon] at h ⊢
    case value => exact h
    case skip => exact h
    case enter f args => exact ⟨h.1, h.2.mono fun _ _ hh => ⟨hh.1, hCD _ hh.2⟩⟩
  | halt => simp only [Oper.quietUpon] at h

theorem wpLex_nil (h : ∀ x, Cl w0 E x → wpList P ops Q tail a x) : wpLex P ops Q w0 tail [] E a := h
theorem wpLex_skip (hw : Region.wanted o (yielded ops a.tmps) = false) (h : wpLex P ops Q w0 tail rest E (a.put o.dst undef)) : wpLex P ops Q w0 tail (o :: rest) E a :=
  fun _ => ⟨.inl undef, .inr ⟨hw, rfl⟩, fun _ _ => h⟩
theorem wpLex_fix (hw : Region.wanted o (yielded ops a.tmps) = true)
    (h : ∀ F : Env, Hid (∀ s B u, (o.looksAt ops).contains s = true → E s B u → F s B u) → ∀ R, GrowsUp R → Nonempty (GrE w0 F R) → ∀ K : Act → Prop, (∀ a', wpLex P ops Q w0 tail rest E a' → K a') → o.quiet P a (fun x => ∃ g : GrE w0 F R, x = g.1) K) :
    wpLex P ops Q w0 tail (o :: rest) E a := by
  rintro ⟨x0, hx0⟩
  replace h := h (E.only ops o) (fun s B u h1 h2 => ⟨h1, h2⟩)
  obtain ⟨v, hv, hk⟩ := h (fun _ => True) (fun _ _ _ _ => trivial) ⟨⟨x0, hx0.only o, trivial⟩⟩ (wpLex P ops Q w0 tail rest E) (fun _ h => h)
  refine ⟨.inl v, .inl ⟨hw, fun x hx => ?_⟩, fun _ _ => hk⟩
  have h1 := hv x ⟨⟨x, hx, trivial⟩, rfl⟩
  obtain ⟨u, hu, _⟩ := h (fun y => Below x.heap.size x y) (fun y z hy hz => hy.trans (hz.mono hy.size)) ⟨⟨x, hx, Below.refl _ _⟩⟩ (fun _ => True) (fun _ _ => trivial)
  have h2 := hu x ⟨⟨x, hx, Below.refl _ _⟩, rfl⟩
  have : v = u := quietUpon_det h1 h2
  subst this
  exact quietUpon_mono (fun y ⟨g, hg⟩ => hg ▸ g.2.2) h2
theorem wpLex_blk (hw : Region.wanted o (yielded ops a.tmps) = true) (obj : Obj) (hrun : ∀ x, Cl w0 (E.only ops o) x → (execOp a.eval o).run P x = .ok (.value (blkVal o x.heap.size)) (x.alloc obj))
    (h : ∀ B, w0.heap.size ≤ B → wpLex P ops Q w0 tail rest (E.upd o.dst B obj) (a.put o.dst (blkVal o B))) : wpLex P ops Q w0 tail (o :: rest) E a :=
  fun _ => ⟨.inr obj, ⟨hw, hrun⟩, h⟩
theorem blk_facts {w : World} {B : Nat} {cs : Array Value} {t : TypeId} (h : w.heap[B]? = some (.cells cs t (0, 0))) : (∀ j, w.cell? ⟨B, j, none⟩ = cs[j]?) ∧ (∀ j, w.frozen? ⟨B, j, none⟩ = false) :=
  ⟨fun j => cell_of_row w B j cs t (0, 0) h, fun j => by simp [World.frozen?, h]⟩
end
end Go.Proofs.Ytdmiljaiglaacaa

/- Rows of strings, as lists of bytes. No program. -/
namespace Go.Proofs.Ytdmiljaiglaacaa
open Go.RowKit

/-- The cells of a list of texts. -/
def sc (xs : List (List UInt8)) : List Value := xs.map fun x => Value.string (bs x)
theorem sc_length (xs : List (List UInt8)) : (sc xs).length = xs.length := List.length_map ..
theorem sc_append (xs ys : List (List UInt8)) : sc (xs ++ ys) = sc xs ++ sc ys := List.map_append ..
theorem sc_get {xs : List (List UInt8)} {j : Nat} {x : List UInt8} (h : xs[j]? = some x) : (sc xs)[j]? = some (.string (bs x)) := by simp [sc, h]
def SRow (w : World) (base : Nat) (e : TypeId) (v : Value) (xs : List (List UInt8)) : Prop := w.ownsRow base e 1 v xs.length (sc xs)
theorem SRow.grow {w w1 : World} {base : Nat} {e : TypeId} {v : Value} {xs : List (List UInt8)} (h : SRow w base e v xs) (k : Below w.heap.size w w1) : SRow w1 base e v xs := own_below h k
theorem SRow.app {w : World} {base : Nat} {e : TypeId} {v : Value} {xs ys : List (List UInt8)} {n : Nat} (h : w.ownsRow base e 1 v n (sc xs ++ sc ys)) (hn : n = xs.length + ys.length) : SRow w base e v (xs ++ ys) := by
  unfold SRow
  rw [List.length_append, sc_append, ← hn]
  exact h
theorem SRow.nil (w : World) (base : Nat) (e : TypeId) : SRow w base e (.slice none 0 0) [] := World.ownsRow_nil w base e 1
/-- What a row of texts is: the nil row, or a block with these texts ahead. -/
theorem SRow.cases {w : World} {base : Nat} {e : TypeId} {v : Value} {xs : List (List UInt8)} (h : SRow w base e v xs) :
    (v = .slice none 0 0 ∧ xs = []) ∨ ∃ g cap, v = .slice (some ⟨g, 0, none⟩) xs.length cap ∧ base ≤ g ∧ g < w.heap.size ∧ xs.length ≤ cap ∧ ∀ (j : Nat) x, xs[j]? = some x → w.cell? ⟨g, j, none⟩ = some (.string (bs x)) := by
  have hc := fun (g : Nat) (hg : v.ownBlock = some g) => World.ownsRow.cells h hg
  rcases h.2 with ⟨rfl, hn⟩ | ⟨g, cap, cur, rfl, h1, h2, h3, _⟩
  · exact .inl ⟨rfl, List.eq_nil_of_length_eq_zero hn⟩
  · refine .inr ⟨g, cap, rfl, h1, (Array.getElem?_eq_some_iff.1 h2).1, h3, fun j x hx => ?_⟩
    have := hc g rfl j _ (sc_get hx)
    have e : Addr.add ⟨g, 0, none⟩ j = ⟨g, j, none⟩ := by unfold Addr.add; split <;> simp_all
    rwa [e] at this
end Go.Proofs.Ytdmiljaiglaacaa

/- Rows of values: six cells each; what is read, and rows of the call's own. -/
namespace Go.Proofs.Ytdmiljaiglaacaa
open Go.RowKit

/-- A value that numbers and lengths of the machine can hold. -/
def Pv.fits (v : Pv) : Prop := I64 v.tag ∧ v.bits < 18446744073709551616 ∧ v.text.length ≤ 140737488355328 ∧ v.cls.length ≤ 140737488355328 ∧ v.name.length ≤ 140737488355328 ∧ v.desc.length ≤ 140737488355328
/-- A value as it lies in cells. -/
def vv (v : Pv) : Value := .agg #[.int .i64 v.tag, .string (bs v.text), .int .u64 v.bits, .string (bs v.cls), .string (bs v.name), .string (bs v.desc)]
def vc : List Pv → List Value
  | [] => []
  | v :: xs => .int .i64 v.tag :: .string (bs v.text) :: .int .u64 v.bits :: .string (bs v.cls) :: .string (bs v.name) :: .string (bs v.desc) :: vc xs
theorem vc_length : ∀ xs : List Pv, (vc xs).length = xs.length * 6
  | [] => rfl
  | v :: xs => by simp only [vc, List.length_cons, vc_length xs]; omega
theorem vc_append : ∀ xs ys : List Pv, vc (xs ++ ys) = vc xs ++ vc ys
  | [], ys => rfl
  | v :: xs, ys => by simp only [List.cons_append, vc, vc_append xs ys]
theorem vc_one : ∀ xs : List Pv, ∀ u ∈ vc xs, u.oneCell' = true
  | [], u, h => by simp [vc] at h
  | v :: xs, u, h => by
    simp only [vc, List.mem_cons] at h
    rcases h with rfl | rfl | rfl | rfl | rfl | rfl | h
    · rfl
    · rfl
    · rfl
    · rfl
    · rfl
    · rfl
    · exact vc_one xs u h
theorem vc_get : ∀ {xs : List Pv} {j : Nat} {v : Pv}, xs[j]? = some v → (vc xs)[j * 6]? = some (.int .i64 v.tag) ∧ (vc xs)[j * 6 + 1]? = some (.string (bs v.text)) ∧ (vc xs)[j * 6 + 2]? = some (.int .u64 v.bits) ∧
    (vc xs)[j * 6 + 3]? = some (.string (bs v.cls)) ∧ (vc xs)[j * 6 + 4]? = some (.string (bs v.name)) ∧ (vc xs)[j * 6 + 5]? = some (.string (bs v.desc))
  | [], j, v, h => by simp at h
  | q :: xs, 0, v, h => by
    simp at h
    subst h
    exact ⟨rfl, rfl, rfl, rfl, rfl, rfl⟩
  | q :: xs, j + 1, v, h => by
    have := vc_get (xs := xs) (j := j) (v := v) (by simpa using h)
    rw [show (j + 1) * 6 = j * 6 + 6 from by omega]
    simpa [vc] using this
theorem infoVal : (Try.prog.info? 28).map (fun i => (i.zero, i.size, i.bytes)) = some (some (.agg #[.int .i64 0, .string ⟨#[]⟩, .int .u64 0, .string ⟨#[]⟩, .string ⟨#[]⟩, .string ⟨#[]⟩]), 6, 80) := by kernel_rfl
/-- The six cells of a value. -/
def VAt (w : World) (g o : Nat) (v : Pv) : Prop :=
  w.cell? ⟨g, o, none⟩ = some (.int .i64 v.tag) ∧ w.cell? ⟨g, o + 1, none⟩ = some (.string (bs v.text)) ∧ w.cell? ⟨g, o + 2, none⟩ = some (.int .u64 v.bits) ∧
  w.cell? ⟨g, o + 3, none⟩ = some (.string (bs v.cls)) ∧ w.cell? ⟨g, o + 4, none⟩ = some (.string (bs v.name)) ∧ w.cell? ⟨g, o + 5, none⟩ = some (.string (bs v.desc))
theorem VAt.keep {w w' : World} {g o : Nat} {v : Pv} (h : VAt w g o v) {B : Nat} (k : Below B w w') (hg : g < B) : VAt w' g o v := by
  obtain ⟨h0, h1, h2, h3, h4, h5⟩ := h
  exact ⟨(k.cell (p := ⟨g, _, none⟩) hg).trans h0, (k.cell (p := ⟨g, _, none⟩) hg).trans h1, (k.cell (p := ⟨g, _, none⟩) hg).trans h2, (k.cell (p := ⟨g, _, none⟩) hg).trans h3, (k.cell (p := ⟨g, _, none⟩) hg).trans h4, (k.cell (p := ⟨g, _, none⟩) hg).trans h5⟩
/-- A box with a value. -/
def VBox (w : World) (b : Nat) (v : Pv) : Prop := w.heap[b]? = some (.cells #[.int .i64 v.tag, .string (bs v.text), .int .u64 v.bits, .string (bs v.cls), .string (bs v.name), .string (bs v.desc)] 28 (0, 0))
theorem VBox.lt {w : World} {b : Nat} {v : Pv} (h : VBox w b v) : b < w.heap.size := (Array.getElem?_eq_some_iff.1 h).1
theorem VBox.keep {w w' : World} {b : Nat} {v : Pv} (h : VBox w b v) {B : Nat} (k : Below B w w') (hb : b < B) : VBox w' b v := (k.block b hb).trans h
theorem VBox.at_ {w : World} {b : Nat} {v : Pv} (h : VBox w b v) : w.cell? ⟨b, 0, none⟩ = some (.int .i64 v.tag) ∧ w.cell? ⟨b, 1, none⟩ = some (.string (bs v.text)) ∧ w.cell? ⟨b, 2, none⟩ = some (.int .u64 v.bits) ∧
    w.cell? ⟨b, 3, none⟩ = some (.string (bs v.cls)) ∧ w.cell? ⟨b, 4, none⟩ = some (.string (bs v.name)) ∧ w.cell? ⟨b, 5, none⟩ = some (.string (bs v.desc)) :=
  ⟨(blk_facts h).1 0, (blk_facts h).1 1, (blk_facts h).1 2, (blk_facts h).1 3, (blk_facts h).1 4, (blk_facts h).1 5⟩
theorem vbox_new (w : World) (v : Pv) : VBox (w.alloc (.cells #[.int .i64 v.tag, .string (bs v.text), .int .u64 v.bits, .string (bs v.cls), .string (bs v.name), .string (bs v.desc)] 28)) w.heap.size v := heap_alloc_new _ _
/-- A row that reads as these values. -/
def Vals (w : World) (A : Option Addr) (c : Nat) (xs : List Pv) : Prop :=
  xs.length ≤ c ∧ (0 < xs.length → ∃ g o, A = some ⟨g, o, none⟩ ∧ g < w.heap.size ∧ ∀ (j : Nat) v, xs[j]? = some v → VAt w g (o + j * 6) v)
theorem Vals.keep {w w' : World} {A : Option Addr} {c : Nat} {xs : List Pv} (h : Vals w A c xs) {B : Nat} (k : Below B w w') (hB : ∀ g o, A = some ⟨g, o, none⟩ → 0 < xs.length → g < B) : Vals w' A c xs :=
  ⟨h.1, fun hp => by
    obtain ⟨g, o, e, hg, hc⟩ := h.2 hp
    exact ⟨g, o, e, Nat.lt_of_lt_of_le hg k.size, fun j x hx => (hc j x hx).keep k (hB g o e hp)⟩⟩
theorem Vals.grow {w w' : World} {A : Option Addr} {c : Nat} {xs : List Pv} (h : Vals w A c xs) (k : Below w.heap.size w w') : Vals w' A c xs :=
  h.keep k fun g o e hp => by
    obtain ⟨g', o', e', hg, _⟩ := h.2 hp
    rw [e] at e'
    cases e'
    exact hg
theorem Vals.nil (w : World) (A : Option Addr) (c : Nat) : Vals w A c [] := ⟨Nat.zero_le _, fun h => by simp at h⟩
/-- The place at i. -/
theorem Vals.at_ {w : World} {A : Option Addr} {c : Nat} {xs : List Pv} (h : Vals w A c xs) {i : Nat} (hi : i < xs.length) : ∃ g o v, A = some ⟨g, o, none⟩ ∧ g < w.heap.size ∧ xs[i]? = some v ∧ VAt w g (o + i * 6) v := by
  obtain ⟨g, o, e, hg, hc⟩ := h.2 (by omega)
  exact ⟨g, o, _, e, hg, List.getElem?_eq_getElem hi, hc i _ (List.getElem?_eq_getElem hi)⟩
def VRow (w : World) (base : Nat) (v : Value) (xs : List Pv) : Prop := w.ownsRow base 28 6 v xs.length (vc xs)
theorem VRow.grow {w w1 : World} {base : Nat} {v : Value} {xs : List Pv} (h : VRow w base v xs) (k : Below w.heap.size w w1) : VRow w1 base v xs := own_below h k
theorem VRow.nil (w : World) (base : Nat) : VRow w base (.slice none 0 0) [] := World.ownsRow_nil w base 28 6
theorem VRow.app {w : World} {base : Nat} {v : Value} {xs ys : List Pv} {n : Nat} (h : w.ownsRow base 28 6 v n (vc xs ++ vc ys)) (hn : n = xs.length + ys.length) : VRow w base v (xs ++ ys) := by
  unfold VRow
  rw [List.length_append, vc_append, ← hn]
  exact h
theorem VRow.kept {w w1 : World} {base : Nat} {v : Value} {xs : List Pv} {row : Option Nat} (h : VRow w base v xs) (g : w.grownBy w1 row) (hne : ∀ k, v.ownBlock = some k → row ≠ some k) : VRow w1 base v xs :=
  World.ownsRow.kept h g (by
    cases e : v.ownBlock with
    | none => exact .inl rfl
    | some k => exact .inr (fun e2 => hne k e e2.symm))
theorem VRow.lower {w : World} {base b' : Nat} {v : Value} {xs : List Pv} (h : VRow w base v xs) (hb : b' ≤ base) : VRow w b' v xs := by
  refine ⟨h.1, ?_⟩
  rcases h.2 with h2 | ⟨g, cap, cur, h2, h3, h4⟩
  · exact .inl h2
  · exact .inr ⟨g, cap, cur, h2, Nat.le_trans hb h3, h4⟩
theorem addr_add (g o j : Nat) : Addr.add ⟨g, o, none⟩ j = ⟨g, o + j, none⟩ := by unfold Addr.add; split <;> simp_all
theorem VRow.reads {w : World} {base : Nat} {v : Value} {xs : List Pv} (h : VRow w base v xs) : ∃ A c, v = .slice A xs.length c ∧ Vals w A c xs ∧ (∀ g o, A = some ⟨g, o, none⟩ → base ≤ g ∧ o = 0) := by
  have hc := fun (g : Nat) (hg : v.ownBlock = some g) => World.ownsRow.cells h hg
  rcases h.2 with ⟨rfl, hn⟩ | ⟨g, cap, cur, rfl, h1, h2, h3, _⟩
  · obtain rfl : xs = [] := List.eq_nil_of_length_eq_zero hn
    exact ⟨none, 0, rfl, Vals.nil _ _ _, fun g o e => by cases e⟩
  · refine ⟨_, cap, rfl, ⟨h3, fun _ => ⟨g, 0, rfl, (Array.getElem?_eq_some_iff.1 h2).1, fun j x hx => ?_⟩⟩, fun g' o e => by cases e; exact ⟨h1, rfl⟩⟩
    obtain ⟨p0, p1, p2, p3, p4, p5⟩ := vc_get hx
    have c0 := hc g rfl _ _ p0
    have c1 := hc g rfl _ _ p1
    have c2 := hc g rfl _ _ p2
    have c3 := hc g rfl _ _ p3
    have c4 := hc g rfl _ _ p4
    have c5 := hc g rfl _ _ p5
    rw [addr_add] at c0 c1 c2 c3 c4 c5
    unfold VAt
    simp only [Nat.add_assoc]
    exact ⟨c0, c1, c2, c3, c4, c5⟩
theorem VRow.base_le {w : World} {base : Nat} {v : Value} {xs : List Pv} (h : VRow w base v xs) {k : Nat} (hk : v.ownBlock = some k) : base ≤ k := (World.ownsRow.lt h k hk).1
/-- What is appended out of a row that is read. -/
theorem Vals.src {w0 w : World} {A : Option Addr} {c : Nat} {xs : List Pv} (h : Vals w0 A c xs) (k : Below w0.heap.size w0 w) : Src Try.prog 6 25 (.slice A xs.length c) xs.length (vc xs) w := by
  have h' := h.grow k
  cases xs with
  | nil =>
    cases A with
    | none => exact Src.ofNil w Try.underlying25 c
    | some a => exact Src.ofSlice w Try.underlying25 a 0 c [] rfl (fun j u hu => by simp at hu) (fun u hu => by cases hu)
  | cons y ys =>
    obtain ⟨g, o, rfl, hg, hc⟩ := h'.2 (by simp)
    refine Src.ofSlice w Try.underlying25 ⟨g, o, none⟩ _ c _ (vc_length _) (fun j u hu => ?_) (vc_one _)
    have hj : j < (vc (y :: ys)).length := (List.getElem?_eq_some_iff.1 hu).1
    rw [vc_length] at hj
    have hi : j / 6 < (y :: ys).length := by omega
    have hx := List.getElem?_eq_getElem hi
    obtain ⟨p0, p1, p2, p3, p4, p5⟩ := vc_get hx
    obtain ⟨c0, c1, c2, c3, c4, c5⟩ := hc _ _ hx
    rw [addr_add]
    have hr : j % 6 = 0 ∨ j % 6 = 1 ∨ j % 6 = 2 ∨ j % 6 = 3 ∨ j % 6 = 4 ∨ j % 6 = 5 := by omega
    have fin : ∀ k, j % 6 = k → j = j / 6 * 6 + k := fun k hk => by omega
    rcases hr with e | e | e | e | e | e <;> (have e1 := fin _ e; revert hu; generalize j / 6 = q at *; subst e1; intro hu)
    · rw [show q * 6 + 0 = q * 6 from rfl] at hu; rw [p0] at hu; cases hu; exact c0
    · rw [p1] at hu; cases hu; exact c1
    · rw [p2] at hu; cases hu; exact c2
    · rw [p3] at hu; cases hu; exact c3
    · rw [p4] at hu; cases hu; exact c4
    · rw [p5] at hu; cases hu; exact c5
/-- One value, out of a fresh block. -/
theorem src_val {w : World} {B : Nat} {v : Pv} {t : TypeId} {fr : Nat × Nat} (hb : w.heap[B]? = some (.cells #[.int .i64 v.tag, .string (bs v.text), .int .u64 v.bits, .string (bs v.cls), .string (bs v.name), .string (bs v.desc)] t fr)) (c : Nat) :
    Src Try.prog 6 25 (.slice (some ⟨B, 0, none⟩) 1 c) 1 (vc [v]) w :=
  src_block Try.underlying25 6 1 c B _ t fr hb rfl (vc_one [v])
/-- append of whatever values onto an own row. -/
theorem wpList_appV {w : World} {ops : Array Oper} {rest : List Oper} {o : Oper} {a : Act} {Q : Exit → Act → World → Prop} (hgd : o.guard = none) (s x : Operand)
    (ho : o.op = .call { callee := .builtin .append, args := #[s, x], argTypes := #[25, 25] })
    (base : Nat) (v : Value) (xs : List Pv) (hv : a.eval s = v) (hown : VRow w base v xs) (X : Value) (ys : List Pv) (hX : a.eval x = X)
    (hs : Src Try.prog 6 25 X ys.length (vc ys) w) (hn : xs.length + ys.length ≤ 1000000000000) (hbase : base ≤ w.heap.size)
    (h : ∀ v' w', VRow w' base v' (xs ++ ys) → Hop w w' v.ownBlock v'.ownBlock → wpList Try.prog ops Q rest (a.put o.dst v') w') : wpList Try.prog ops Q (o :: rest) a w := by
  obtain ⟨i0, hi, hz0, hz1, hz2⟩ := info_parts infoVal
  refine wpList_append_row hgd s x 25 25 ho base 28 i0 _ 6 80 Try.underlying25 hi hz0 hz1 hz2 rfl v _ _ hv hown X ys.length (vc ys) hX (fun v' w' h1 h2 => h v' w' (VRow.app h1 rfl) h2) hs ?_ ?_ hbase
  · unfold maxLen; omega
  · omega
theorem step_appV {w : World} {ops : Array Oper} {o : Oper} {a : Act} {K : Act → World → Prop} {Q : Exit → Act → World → Prop} {E : Prop} (hgd : o.guard = none) (s x : Operand)
    (ho : o.op = .call { callee := .builtin .append, args := #[s, x], argTypes := #[25, 25] })
    (base : Nat) (v : Value) (xs : List Pv) (hv : a.eval s = v) (hown : VRow w base v xs) (X : Value) (ys : List Pv) (hX : a.eval x = X)
    (hs : Src Try.prog 6 25 X ys.length (vc ys) w) (hn : xs.length + ys.length ≤ 1000000000000) (hbase : base ≤ w.heap.size)
    (h : ∀ v' w', VRow w' base v' (xs ++ ys) → Hop w w' v.ownBlock v'.ownBlock → K (a.put o.dst v') w') :
    if Region.wanted o (yielded ops a.tmps) = true then Oper.wp Try.prog o a w K Q else E := by
  obtain ⟨i0, hi, hz0, hz1, hz2⟩ := info_parts infoVal
  refine step_append_row hgd s x 25 25 ho base 28 i0 _ 6 80 Try.underlying25 hi hz0 hz1 hz2 rfl v _ _ hv hown X ys.length (vc ys) hX (fun v' w' h1 h2 => h v' w' (VRow.app h1 rfl) h2) hs ?_ ?_ hbase
  · unfold maxLen; omega
  · omega
end Go.Proofs.Ytdmiljaiglaacaa

/- A port: a box with a table, sixty-four rows of numbers, whether it reads, and its error. -/
namespace Go.Proofs.Ytdmiljaiglaacaa
open Go.RowKit

/-- A row of numbers of the call's own; its head may have been taken. -/
def IOff (w : World) (base : Nat) (v : Value) (xs : List Int) : Prop := OffRow w base 3 1 v xs.length (ic xs)
section
variable {w w1 : World} {base : Nat} {v : Value} {xs : List Int}
theorem IOff.of (h : IRow w base v xs) : IOff w base v xs := OffRow.of_own h
theorem IOff.nil (w : World) (base : Nat) : IOff w base (.slice none 0 0) [] := OffRow.nil w base 3 1
theorem IOff.grow (h : IOff w base v xs) (k : Below w.heap.size w w1) : IOff w1 base v xs := OffRow.grow h k
theorem IOff.kept {row : Option Nat} (h : IOff w base v xs) (g : w.grownBy w1 row) (hne : row = none ∨ row ≠ v.ownBlock) : IOff w1 base v xs := OffRow.kept h g hne
theorem IOff.lower {b : Nat} (h : IOff w base v xs) (hb : b ≤ base) : IOff w b v xs := OffRow.lower h hb
theorem IOff.lt (h : IOff w base v xs) {k : Nat} (hk : v.ownBlock = some k) : base ≤ k ∧ k < w.heap.size := OffRow.base_le h hk
theorem IOff.reads (h : IOff w base v xs) : ∃ A c, v = .slice A xs.length c ∧ Ints w A c xs := by
  rcases h.2 with ⟨rfl, hn⟩ | ⟨g, o, cap, cur, rfl, h1, h2, h3, _⟩
  · obtain rfl : xs = [] := List.eq_nil_of_length_eq_zero hn
    exact ⟨none, 0, rfl, Ints.nil _ _ _⟩
  · exact ⟨_, cap, rfl, h3, fun _ => ⟨g, o, rfl, (Array.getElem?_eq_some_iff.1 h2).1, fun j x hx => OffRow.cells h j _ (ic_get hx)⟩⟩
theorem IOff.app {ys : List Int} {n : Nat} (h : OffRow w base 3 1 v n (ic xs ++ ic ys)) (hn : n = xs.length + ys.length) : IOff w base v (xs ++ ys) := by
  unfold IOff
  rw [List.length_append, ic_append, ← hn]
  exact h
/-- The row without its head. -/
theorem IOff.next {x : Int} (h : IOff w base v (x :: xs)) : ∃ g o c, v = .slice (some ⟨g, o, none⟩) (xs.length + 1) c ∧ xs.length + 1 ≤ c ∧ g < w.heap.size ∧ w.cell? ⟨g, o, none⟩ = some (.int .i64 x) ∧ IOff w base (.slice (if c = 1 then some ⟨g, o, none⟩ else some ⟨g, o + 1, none⟩) xs.length (c - 1)) xs := by
  have h0 := h
  rcases h.2 with ⟨rfl, hn⟩ | ⟨g, o, cap, cur, rfl, h1, h2, h3, _⟩
  · cases hn
  · rw [List.length_cons] at h3
    refine ⟨g, o, cap, rfl, h3, (Array.getElem?_eq_some_iff.1 h2).1, by simpa using OffRow.cells h 0 _ (ic_get (xs := x :: xs) (j := 0) rfl), ?_⟩
    have h4 : OffRow w base 3 1 (.slice (some ⟨g, o, none⟩) (xs.length + 1) cap) (xs.length + 1) ([.int .i64 x] ++ ic xs) := h0
    have h5 := OffRow.next h4 rfl
    by_cases hc : cap = 1
    · rw [if_pos hc] at h5 ⊢; exact h5
    · rw [if_neg hc] at h5 ⊢; exact h5
end
/-- A port's box. -/
def PBox (w : World) (b : Nat) (tp : Value) (us : Nat → Value) (rd : Bool) (e : Int) : Prop :=
  ∃ cs : Array Value, w.heap[b]? = some (.cells cs 66 (0, 0)) ∧ cs.size = 67 ∧ cs[0]? = some tp ∧ (∀ t, t < 64 → cs[1 + t]? = some (us t)) ∧ cs[65]? = some (.bool rd) ∧ cs[66]? = some (.int .i64 e)
section
variable {w w1 : World} {b : Nat} {tp : Value} {us : Nat → Value} {rd : Bool} {e : Int}
theorem PBox.lt (h : PBox w b tp us rd e) : b < w.heap.size := by
  obtain ⟨cs, h1, _⟩ := h
  exact (Array.getElem?_eq_some_iff.1 h1).1
theorem PBox.grow (h : PBox w b tp us rd e) (k : Below w.heap.size w w1) : PBox w1 b tp us rd e := by
  have hl := h.lt
  obtain ⟨cs, h1, h2⟩ := h
  exact ⟨cs, (k.block b hl).trans h1, h2⟩
theorem PBox.kept {o : Option Nat} (h : PBox w b tp us rd e) (k : w.grownBy w1 o) (hne : some b ≠ o) : PBox w1 b tp us rd e := by
  have hl := h.lt
  obtain ⟨cs, h1, h2⟩ := h
  exact ⟨cs, (k.block b hl hne).trans h1, h2⟩
theorem PBox.tab (h : PBox w b tp us rd e) : w.cell? ⟨b, 0, none⟩ = some tp := by
  obtain ⟨cs, h1, _, h3, _⟩ := h
  exact ((blk_facts h1).1 0).trans h3
theorem PBox.row (h : PBox w b tp us rd e) {t : Nat} (ht : t < 64) : w.cell? ⟨b, 1 + t, none⟩ = some (us t) := by
  obtain ⟨cs, h1, _, _, h3, _⟩ := h
  exact ((blk_facts h1).1 (1 + t)).trans (h3 t ht)
theorem PBox.isr (h : PBox w b tp us rd e) : w.cell? ⟨b, 65, none⟩ = some (.bool rd) := by
  obtain ⟨cs, h1, _, _, _, h3, _⟩ := h
  exact ((blk_facts h1).1 65).trans h3
theorem PBox.err (h : PBox w b tp us rd e) : w.cell? ⟨b, 66, none⟩ = some (.int .i64 e) := by
  obtain ⟨cs, h1, _, _, _, _, h3⟩ := h
  exact ((blk_facts h1).1 66).trans h3
theorem PBox.frozen (h : PBox w b tp us rd e) (t : Nat) : w.frozen? ⟨b, t, none⟩ = false := by
  obtain ⟨cs, h1, _⟩ := h
  exact (blk_facts h1).2 t
theorem PBox.turned (h : PBox w b tp us rd e) (t : Nat) (v : Value) : w.grownBy (w.setCell ⟨b, t, none⟩ v) (some b) := by
  obtain ⟨cs, h1, _⟩ := h
  rw [setCell_eq_setRow w b t cs 66 (0, 0) v h1]
  exact ⟨rfl, rfl, rfl, by simp, fun k _ hne => setRow_other w b k _ (fun hh => hne (by rw [hh]))⟩
theorem PBox.setRow (h : PBox w b tp us rd e) {t : Nat} (ht : t < 64) (v : Value) : PBox (w.setCell ⟨b, 1 + t, none⟩ v) b tp (fun k => if k = t then v else us k) rd e := by
  obtain ⟨cs, h1, h2, h3, h4, h5, h6⟩ := h
  refine ⟨cs.setIfInBounds (1 + t) v, ?_, by simpa using h2, ?_, fun k hk => ?_, ?_, ?_⟩
  · simp [World.setCell, Array.getElem?_modify, h1]
  · rw [Array.getElem?_setIfInBounds, if_neg (by omega)]; exact h3
  · rw [Array.getElem?_setIfInBounds]
    by_cases e : k = t
    · subst e
      rw [if_pos rfl, if_pos (by omega)]
      dsimp only
      rw [if_pos rfl]
    · rw [if_neg (fun h => e (by omega))]
      dsimp only
      rw [if_neg e]
      exact h4 k hk
  · rw [Array.getElem?_setIfInBounds, if_neg (by omega)]; exact h5
  · rw [Array.getElem?_setIfInBounds, if_neg (by omega)]; exact h6
theorem PBox.setErr (h : PBox w b tp us rd e) (e' : Int) : PBox (w.setCell ⟨b, 66, none⟩ (.int .i64 e')) b tp us rd e' := by
  obtain ⟨cs, h1, h2, h3, h4, h5, h6⟩ := h
  refine ⟨cs.setIfInBounds 66 (.int .i64 e'), ?_, by simpa using h2, ?_, fun k hk => ?_, ?_, ?_⟩
  · simp [World.setCell, Array.getElem?_modify, h1]
  · rw [Array.getElem?_setIfInBounds, if_neg (by omega)]; exact h3
  · rw [Array.getElem?_setIfInBounds, if_neg (by omega)]; exact h4 k hk
  · rw [Array.getElem?_setIfInBounds, if_neg (by omega)]; exact h5
  · rw [Array.getElem?_setIfInBounds, if_pos rfl, if_pos (by omega)]
/-- A row of numbers is not the box. -/
theorem PBox.apart {x : World} {base : Nat} {u : Value} {xs : List Int} (h : PBox w b tp us rd e) (hr : IOff x base u xs) (hx : x.heap[b]? = w.heap[b]?) : some b ≠ u.ownBlock := by
  obtain ⟨cs, h1, _⟩ := h
  exact OffRow.ne hr (hx.trans h1) (by decide)
end
/-- A port: its rows lie behind the base, each in its own block. -/
structure PortS (x : World) (base b : Nat) (tp : Value) (us : Nat → Value) (R : Nat → List Int) (rd : Bool) (e : Int) : Prop where
  box : PBox x b tp us rd e
  rows : ∀ t, t < 64 → IOff x base (us t) (R t)
  apart : ∀ s t, s < 64 → t < 64 → s ≠ t → ∀ k, (us s).ownBlock = some k → (us t).ownBlock ≠ some k
  hb : base ≤ b
/-- A block lies apart from a port's. -/
def Off (us : Nat → Value) (b g : Nat) : Prop := g ≠ b ∧ ∀ t, t < 64 → (us t).ownBlock ≠ some g
section
variable {x y : World} {base b : Nat} {tp : Value} {us : Nat → Value} {R : Nat → List Int} {rd : Bool} {e : Int}
theorem PortS.grow (h : PortS x base b tp us R rd e) (k : Below x.heap.size x y) : PortS y base b tp us R rd e :=
  ⟨h.box.grow k, fun t ht => (h.rows t ht).grow k, h.apart, h.hb⟩
theorem PortS.ble (h : PortS x base b tp us R rd e) : base ≤ x.heap.size := Nat.le_trans h.hb (Nat.le_of_lt h.box.lt)
/-- A block that came behind. -/
theorem PortS.off (h : PortS x base b tp us R rd e) {g : Nat} (hg : x.heap.size ≤ g) : Off us b g :=
  ⟨fun e => by have := h.box.lt; omega, fun t ht e => by have := ((h.rows t ht).lt e).2; omega⟩
/-- Another block turns. -/
theorem PortS.kept (h : PortS x base b tp us R rd e) {g : Nat} (hg : Off us b g) (k : x.grownBy y (some g)) : PortS y base b tp us R rd e :=
  ⟨h.box.kept k (fun e => hg.1 (Option.some.inj e).symm), fun t ht => (h.rows t ht).kept k (.inr fun e => hg.2 t ht e.symm), h.apart, h.hb⟩
/-- The error turns. -/
theorem PortS.err (h : PortS x base b tp us R rd e) (e' : Int) : PortS (x.setCell ⟨b, 66, none⟩ (.int .i64 e')) base b tp us R rd e' :=
  ⟨h.box.setErr e', fun t ht => (h.rows t ht).kept (h.box.turned 66 _) (.inr (h.box.apart (h.rows t ht) rfl)), h.apart, h.hb⟩
/-- A row turns, and is stored anew. -/
theorem PortS.put (h : PortS x base b tp us R rd e) {t : Nat} (ht : t < 64) {v : Value} {ys : List Int} (hr : IOff y base v ys) (hp : Hop x y (us t).ownBlock v.ownBlock) :
    PortS (y.setCell ⟨b, 1 + t, none⟩ v) base b tp (fun k => if k = t then v else us k) (fun k => if k = t then ys else R k) rd e := by
  have hbr : some b ≠ (us t).ownBlock := h.box.apart (h.rows t ht) rfl
  have hby : PBox y b tp us rd e := h.box.kept hp.1 hbr
  have hbv : some b ≠ v.ownBlock := hby.apart hr rfl
  refine ⟨hby.setRow ht v, fun s hs => ?_, fun s s' hs hs' hne k hk e => ?_, h.hb⟩
  · by_cases e : s = t
    · subst e
      rw [if_pos rfl, if_pos rfl]
      exact hr.kept (hby.turned (1 + s) v) (.inr hbv)
    · rw [if_neg e, if_neg e]
      have h1 : IOff y base (us s) (R s) := (h.rows s hs).kept hp.1 (by
        cases hu : (us t).ownBlock with
        | none => exact .inl rfl
        | some k => exact .inr fun e2 => h.apart t s ht hs (fun h => e h.symm) k hu e2.symm)
      exact h1.kept (hby.turned (1 + t) v) (.inr (hby.apart h1 rfl))
  · have new : ∀ s, s < 64 → s ≠ t → ∀ k, v.ownBlock = some k → (us s).ownBlock ≠ some k := fun s hs hst k hk e => by
      rcases hp.2 with h2 | ⟨g, hg, h2⟩
      · exact h.apart s t hs ht hst k e (h2 ▸ hk)
      · rw [h2] at hk
        cases hk
        have := ((h.rows s hs).lt e).2
        omega
    by_cases e1 : s = t
    · by_cases e2 : s' = t
      · exact hne (e1.trans e2.symm)
      · rw [if_pos e1] at hk
        rw [if_neg e2] at e
        exact new s' hs' e2 k hk e
    · by_cases e2 : s' = t
      · rw [if_neg e1] at hk
        rw [if_pos e2] at e
        exact new s hs e1 k e hk
      · rw [if_neg e1] at hk
        rw [if_neg e2] at e
        exact h.apart s s' hs hs' hne k hk e
/-- A block apart stays apart. -/
theorem Off.put {g t : Nat} {v : Value} (h : Off us b g) (hp : Hop x y (us t).ownBlock v.ownBlock) (ht : t < 64) (hg : g < x.heap.size) : Off (fun k => if k = t then v else us k) b g :=
  ⟨h.1, fun s hs => by
    by_cases e : s = t
    · dsimp only
      rw [if_pos e]
      rcases hp.2 with h2 | ⟨q, hq, h2⟩
      · rw [h2]; exact h.2 t ht
      · rw [h2]; intro e; cases e; omega
    · dsimp only
      rw [if_neg e]; exact h.2 s hs⟩
end
end Go.Proofs.Ytdmiljaiglaacaa
