/- As XOrder, and an operation may be an append onto a fresh row, or a call of which a fact about what it returns is all that is known: whatever it comes to. No program. -/
import Derived.Test.YtimheacdaafodaaOrder
import Derived.Test.YtimheacdaafodaaAppend
namespace Go.Proofs.Ytimheacdaafodaa.OrdC
open Go.RowKit

/-- What comes out: a block, a value, what the block holds; 'got': is there a block at all? -/
structure Out where
  B : Nat
  v : Value
  obj : Obj
  got : Bool := true

section
variable {fr : Oper → Nat} {Ψ : Oper → Out → Prop} {P : Program} {ops : Array Oper} {md : Region.Mode} {Q : Exit → Act → World → Prop} {w0 x y : World} {E F : Env}

def isApp (o : Oper) : Bool := match o.op with | .call c => (match c.callee with | .builtin .append => true | _ => false) | _ => false
/-- 1: an append; 2: a call that is told by a fact; 3: what asks nothing of the world, by its values; 0: all else. -/
def sp (fr : Oper → Nat) (o : Oper) : Nat := if isApp o then 1 else if fr o = 1 then 0 else fr o
/-- What an operation comes to: one value; a fresh block that holds this; a row of its own, new or the old one; or what a call returns. -/
inductive Kind where
  | val (v : Value)
  | blk (obj : Obj)
  | app
  | call
  | free (v : Value)
def Kind.res (o : Oper) (k : Kind) (ω : Out) : Value := match k with | .val v => v | .blk _ => blkVal o ω.B | .app => ω.v | .call => ω.v | .free v => v
def Kind.env (o : Oper) (k : Kind) (ω : Out) (E : Env) : Env := match k with | .val _ => E | .blk obj => E.upd o.dst ω.B obj | .app => E.upd o.dst ω.B ω.obj | .call => if ω.got then E.upd o.dst ω.B ω.obj else E | .free _ => E
def Fits (Ψ : Oper → Out → Prop) (P : Program) (w0 : World) (F : Env) (o : Oper) (a : Act) (k : Kind) (ω : Out) : Prop := match k with
  | .val _ => True
  | .blk _ => w0.heap.size ≤ ω.B
  | .app => w0.heap.size ≤ ω.B ∧ ω.v.ownBlock = some ω.B ∧ ∃ x y, Cl w0 F x ∧ (execOp a.eval o).run P x = .ok (.value ω.v) y ∧ y.heap[ω.B]? = some ω.obj
  | .call => Ψ o ω ∧ (ω.got = true → w0.heap.size ≤ ω.B)
  | .free _ => True

def Runs (fr : Oper → Nat) (Ψ : Oper → Out → Prop) (P : Program) (ops : Array Oper) (w0 : World) (F : Env) (o : Oper) (a : Act) : Kind → Prop
  | .val v => sp fr o = 0 ∧ ((Region.wanted o (yielded ops a.tmps) = true ∧ ∀ x, Cl w0 F x → o.quietAt P a (fun y => Below x.heap.size x y) x v) ∨ (Region.wanted o (yielded ops a.tmps) = false ∧ v = undef))
  | .blk obj => sp fr o = 0 ∧ Region.wanted o (yielded ops a.tmps) = true ∧ ∀ x, Cl w0 F x → (execOp a.eval o).run P x = .ok (.value (blkVal o x.heap.size)) (x.alloc obj)
  | .app => sp fr o = 1 ∧ Region.wanted o (yielded ops a.tmps) = true ∧ ∀ x, Cl w0 F x → ∃ v y B obj, (execOp a.eval o).run P x = .ok (.value v) y ∧ Below x.heap.size x y ∧ w0.heap.size ≤ B ∧ v.ownBlock = some B ∧ y.heap[B]? = some obj
  | .call => sp fr o = 2 ∧ Region.wanted o (yielded ops a.tmps) = true ∧ ∀ x, Cl w0 F x → ∃ f args, (execOp a.eval o).run P x = .ok (.enter f args) x ∧ Calls P f args x fun e y => ∃ ω : Out, e = .returned ω.v ∧ Below x.heap.size x y ∧ (ω.got = true → w0.heap.size ≤ ω.B ∧ y.heap[ω.B]? = some ω.obj) ∧ Ψ o ω
  | .free v => sp fr o = 3 ∧ Region.wanted o (yielded ops a.tmps) = true ∧ ∀ x, (execOp a.eval o).run P x = .ok (.value v) x

theorem Runs.det {o : Oper} {a : Act} : ∀ {k1 k2 : Kind}, Runs fr Ψ P ops w0 F o a k1 → Runs fr Ψ P ops w0 F o a k2 → Cl w0 F x → k1 = k2
  | .val v, .val u, h1, h2, hx => by
    rcases h1.2 with ⟨w1, h1⟩ | ⟨w1, h1⟩ <;> rcases h2.2 with ⟨w2, h2⟩ | ⟨w2, h2⟩
    · exact congrArg _ (quietUpon_det (h1 x hx) (h2 x hx))
    · rw [w1] at w2; cases w2
    · rw [w1] at w2; cases w2
    · rw [h1, h2]
  | .val v, .blk o2, h1, h2, hx => by
    rcases h1.2 with ⟨w1, h1⟩ | ⟨w1, h1⟩
    · have := h1 x hx
      unfold Oper.quietAt at this
      rw [h2.2.2 x hx] at this
      exact absurd this.1 (alloc_ne x o2)
    · have := h2.2.1; rw [w1] at this; cases this
  | .blk o1, .val u, h1, h2, hx => by
    rcases h2.2 with ⟨w2, h2⟩ | ⟨w2, h2⟩
    · have := h2 x hx
      unfold Oper.quietAt at this
      rw [h1.2.2 x hx] at this
      exact absurd this.1 (alloc_ne x o1)
    · have := h1.2.1; rw [w2] at this; cases this
  | .blk o1, .blk o2, h1, h2, hx => by
    have := (h1.2.2 x hx).symm.trans (h2.2.2 x hx)
    simp only [Result.ok.injEq] at this
    exact congrArg _ (alloc_inj this.2)
  | .app, .app, _, _, _ => rfl
  | .app, .val _, h1, h2, _ => by have := h1.1; rw [h2.1] at this; cases this
  | .app, .blk _, h1, h2, _ => by have := h1.1; rw [h2.1] at this; cases this
  | .val _, .app, h1, h2, _ => by have := h2.1; rw [h1.1] at this; cases this
  | .blk _, .app, h1, h2, _ => by have := h2.1; rw [h1.1] at this; cases this
  | .call, .call, _, _, _ => rfl
  | .free v, .free u, h1, h2, hx => by
    have := (h1.2.2 x).symm.trans (h2.2.2 x)
    simp only [Result.ok.injEq, Next.value.injEq] at this
    exact congrArg _ this.1
  | .free _, .val _, h1, h2, _ => by have := h1.1; rw [h2.1] at this; cases this
  | .free _, .blk _, h1, h2, _ => by have := h1.1; rw [h2.1] at this; cases this
  | .free _, .app, h1, h2, _ => by have := h1.1; rw [h2.1] at this; cases this
  | .free _, .call, h1, h2, _ => by have := h1.1; rw [h2.1] at this; cases this
  | .val _, .free _, h1, h2, _ => by have := h1.1; rw [h2.1] at this; cases this
  | .blk _, .free _, h1, h2, _ => by have := h1.1; rw [h2.1] at this; cases this
  | .app, .free _, h1, h2, _ => by have := h1.1; rw [h2.1] at this; cases this
  | .call, .free _, h1, h2, _ => by have := h1.1; rw [h2.1] at this; cases this
  | .call, .val _, h1, h2, _ => by have := h1.1; rw [h2.1] at this; cases this
  | .call, .blk _, h1, h2, _ => by have := h1.1; rw [h2.1] at this; cases this
  | .call, .app, h1, h2, _ => by have := h1.1; rw [h2.1] at this; cases this
  | .val _, .call, h1, h2, _ => by have := h1.1; rw [h2.1] at this; cases this
  | .blk _, .call, h1, h2, _ => by have := h1.1; rw [h2.1] at this; cases this
  | .app, .call, h1, h2, _ => by have := h1.1; rw [h2.1] at this; cases this

theorem Runs.put {o : Oper} {a : Act} {dst : Option Tmp} {u : Value} (hs : ∀ cs b, o.op ≠ .select cs b) (h : ∀ d, dst = some d → d ∉ o.looksAt ops) (k : Kind) : Runs fr Ψ P ops w0 F o (a.put dst u) k ↔ Runs fr Ψ P ops w0 F o a k := by
  cases k <;> simp only [Runs, Oper.quietAt, execOp_put o hs a dst u h, wanted_put o a dst u h]
theorem Fits.put {o : Oper} {a : Act} {dst : Option Tmp} {u : Value} (hs : ∀ cs b, o.op ≠ .select cs b) (h : ∀ d, dst = some d → d ∉ o.looksAt ops) (k : Kind) (ω : Out) : Fits Ψ P w0 F o (a.put dst u) k ω ↔ Fits Ψ P w0 F o a k ω := by
  cases k <;> simp only [Fits, execOp_put o hs a dst u h]
theorem Env.only_upd {o1 : Option Nat} {oj : Oper} (B : Nat) (obj : Obj) (h : ∀ d, o1 = some d → d ∉ oj.looksAt ops) : (E.upd o1 B obj).only ops oj = E.only ops oj := by
  funext s C u
  apply propext
  exact ⟨fun ⟨h1, h2⟩ => ⟨h1, h2.resolve_right fun h3 => h s h3.1 (by simpa using h1)⟩, fun ⟨h1, h2⟩ => ⟨h1, .inl h2⟩⟩
theorem Env.only_env {oi oj : Oper} (k : Kind) (ω : Out) (h : ∀ d, oi.dst = some d → d ∉ oj.looksAt ops) : (k.env oi ω E).only ops oj = E.only ops oj := by
  cases k with
  | val v => rfl
  | blk obj => exact Env.only_upd ω.B obj h
  | app => exact Env.only_upd ω.B ω.obj h
  | call =>
    show (if ω.got then E.upd oi.dst ω.B ω.obj else E).only ops oj = E.only ops oj
    split
    · exact Env.only_upd ω.B ω.obj h
    · rfl
  | free v => rfl
theorem upd_comm {d1 d2 : Option Nat} {B1 B2 : Nat} {o1 o2 : Obj} : (E.upd d1 B1 o1).upd d2 B2 o2 = (E.upd d2 B2 o2).upd d1 B1 o1 := by
  funext s C u
  apply propext
  exact ⟨fun h => by rcases h with (h | h) | h <;> simp [Env.upd, h], fun h => by rcases h with (h | h) | h <;> simp [Env.upd, h]⟩
theorem Kind.env_comm {oi oj : Oper} (ki kj : Kind) (ωi ωj : Out) : ki.env oi ωi (kj.env oj ωj E) = kj.env oj ωj (ki.env oi ωi E) := by
  cases ki <;> cases kj <;> simp only [Kind.env] <;> (repeat' split) <;> first | rfl | exact upd_comm
theorem Kind.env_le (o : Oper) (k : Kind) (ω : Out) (s C : Nat) (u : Obj) (h : E s C u) : k.env o ω E s C u := by
  cases k with
  | val _ => exact h
  | blk _ => exact .inl h
  | app => exact .inl h
  | call =>
    show (if ω.got then E.upd o.dst ω.B ω.obj else E) s C u
    split
    · exact .inl h
    · exact h
  | free _ => exact h
theorem cl_app (h : Cl w0 E x) (k : Below x.heap.size x y) {B : Nat} {obj : Obj} (hB : w0.heap.size ≤ B) (hy : y.heap[B]? = some obj) (d : Option Nat) : Cl w0 (E.upd d B obj) y := by
  have hg := h.grow k
  refine ⟨hg.below, fun s C o e => ?_⟩
  rcases e with e | ⟨_, rfl, rfl⟩
  · exact hg.fact s C o e
  · exact ⟨hB, hy⟩
theorem cl_call (h : Cl w0 E x) (k : Below x.heap.size x y) {ω : Out} (hg : ω.got = true → w0.heap.size ≤ ω.B ∧ y.heap[ω.B]? = some ω.obj) (d : Option Nat) : Cl w0 (if ω.got then E.upd d ω.B ω.obj else E) y := by
  split
  · rename_i e
    exact cl_app h k (hg e).1 (hg e).2 d
  · exact h.grow k
/-- It comes to something. -/
theorem Runs.out {o : Oper} {a : Act} {k : Kind} (h : Runs fr Ψ P ops w0 (E.only ops o) o a k) (hx : Cl w0 E x) : ∃ ω w', Fits Ψ P w0 (E.only ops o) o a k ω ∧ Cl w0 (k.env o ω E) w' := by
  cases k with
  | val v => exact ⟨⟨0, v, .map #[] 0, true⟩, x, trivial, hx⟩
  | blk obj => exact ⟨⟨x.heap.size, undef, obj, true⟩, _, hx.below.size, hx.upd o.dst obj⟩
  | app =>
    obtain ⟨v, y, B, obj, h1, h2, h3, h4, h5⟩ := h.2.2 x (hx.only o)
    exact ⟨⟨B, v, obj, true⟩, y, ⟨h3, h4, x, y, hx.only o, h1, h5⟩, cl_app hx h2 h3 h5 o.dst⟩
  | call =>
    obtain ⟨f, args, _, hc⟩ := h.2.2 x (hx.only o)
    obtain ⟨e, y, _, ⟨ω, _, hb, hg, hψ⟩, _⟩ := hc []
    exact ⟨ω, y, ⟨hψ, fun e => (hg e).1⟩, cl_call hx hb hg o.dst⟩
  | free v => exact ⟨⟨0, v, .map #[] 0, true⟩, x, trivial, hx⟩

theorem Runs.wpOp {i : Nat} {o : Oper} {a : Act} {k : Kind} (hi : ops[i]? = some o) (h : Runs fr Ψ P ops w0 (E.only ops o) o a k) (hx : Cl w0 E x) {K : Act → World → Prop}
    (hK : ∀ ω y, Fits Ψ P w0 (E.only ops o) o a k ω → Cl w0 (k.env o ω E) y → K (a.put o.dst (k.res o ω)) y) : Go.wpOp P ops Q i K a x := by
  unfold Go.wpOp
  simp only [hi]
  cases k with
  | val v =>
    have hK' := fun y hy => hK ⟨0, v, .map #[] 0, true⟩ y trivial hy
    rcases h.2 with ⟨hw, hv⟩ | ⟨hw, rfl⟩
    · rw [if_pos hw]
      refine .inl ?_
      have h3 := hv x (hx.only o)
      unfold Oper.quietAt at h3
      unfold Oper.wp
      generalize (execOp a.eval o).run P x = r at *
      cases r with
      | ok n w' =>
        cases n <;> simp only [Oper.quietUpon] at h3 <;> simp only [Oper.upon]
        case value u => obtain ⟨rfl, rfl⟩ := h3; exact hK' _ hx
        case skip => obtain ⟨rfl, rfl⟩ := h3; exact hK' _ hx
        case enter f args =>
          obtain ⟨rfl, hc⟩ := h3
          exact hc.mono fun e w'' ⟨he, hw''⟩ => by subst he; exact hK' _ (hx.grow hw'')
      | halt => simp only [Oper.quietUpon] at h3
    · rw [if_neg (by rw [hw]; decide)]
      exact hK' x hx
  | blk obj =>
    rw [if_pos h.2.1]
    refine .inl ?_
    unfold Oper.wp
    rw [h.2.2 x (hx.only o)]
    exact hK ⟨x.heap.size, undef, obj, true⟩ _ hx.below.size (hx.upd o.dst obj)
  | app =>
    rw [if_pos h.2.1]
    refine .inl ?_
    obtain ⟨v, y, B, obj, h1, h2, h3, h4, h5⟩ := h.2.2 x (hx.only o)
    unfold Oper.wp
    rw [h1]
    exact hK ⟨B, v, obj, true⟩ y ⟨h3, h4, x, y, hx.only o, h1, h5⟩ (cl_app hx h2 h3 h5 o.dst)
  | call =>
    rw [if_pos h.2.1]
    refine .inl ?_
    obtain ⟨f, args, h1, hc⟩ := h.2.2 x (hx.only o)
    unfold Oper.wp
    rw [h1]
    simp only [Oper.upon]
    exact hc.mono fun e w'' ⟨ω, he, hb, hg, hψ⟩ => by
      subst he
      exact hK ω w'' ⟨hψ, fun e => (hg e).1⟩ (cl_call hx hb hg o.dst)
  | free v =>
    rw [if_pos h.2.1]
    refine .inl ?_
    unfold Oper.wp
    rw [h.2.2 x]
    exact hK ⟨0, v, .map #[] 0, true⟩ x trivial hx

/-- What may come behind an operation of the tail: it asks nothing of the world. -/
def lateF (fr : Oper → Nat) (o : Oper) : Bool := lateB o || sp fr o == 3
theorem late_yields {o : Oper} {a : Act} {k : Kind} (h : lateF fr o = true) (hr : Runs fr Ψ P ops w0 F o a k) (hx : Cl w0 F x) :
    ∃ v, (∀ ω E, k.env o ω E = E) ∧ (∀ ω, k.res o ω = v) ∧ (∀ ω, Fits Ψ P w0 F o a k ω) ∧ Yields P ops o v a := by
  have hB : ∀ n, n ≠ 3 → sp fr o = n → lateB o = true := fun n hn hs => by
    unfold lateF at h
    rw [hs, Bool.or_eq_true] at h
    rcases h with h | h
    · exact h
    · exact absurd (by simpa using h) hn
  cases k with
  | val v =>
    have h := hB 0 (by decide) hr.1
    refine ⟨v, fun _ _ => rfl, fun _ => rfl, fun _ => trivial, ?_⟩
    rcases hr.2 with ⟨hw, hv⟩ | hr
    · refine .inl ⟨hw, ?_⟩
      have := hv x hx
      unfold Oper.quietAt at this
      rcases late_run (P := P) o h a.eval with ⟨u, hu⟩ | hu
      · rw [hu x] at this
        simp only [Oper.quietUpon] at this
        rw [← this.2]
        exact hu
      · obtain ⟨hh, e⟩ := hu x
        rw [e] at this
        simp only [Oper.quietUpon] at this
    · exact .inr hr
  | blk obj =>
    have h := hB 0 (by decide) hr.1
    have := hr.2.2 x hx
    rcases late_run (P := P) o h a.eval with ⟨u, hu⟩ | hu
    · rw [hu x] at this
      simp only [Result.ok.injEq] at this
      exact absurd this.2.symm (alloc_ne x obj)
    · obtain ⟨hh, e⟩ := hu x
      rw [e] at this
      cases this
  | app =>
    have h := hB 1 (by decide) hr.1
    exfalso
    have h1 := hr.1
    have h2 : isApp o = true := by
      apply Classical.byContradiction
      intro hn
      unfold lateB at h
      unfold sp at h1
      rw [if_neg hn] at h1
      split at h1
      · cases h1
      · rename_i h3; exact h3 h1
    unfold lateB at h
    unfold isApp at h2
    split at h
    · rename_i ho; rw [ho] at h2; cases h2
    · rename_i ho; rw [ho] at h2; cases h2
    · cases h
  | call =>
    have h := hB 2 (by decide) hr.1
    obtain ⟨f, args, h1, _⟩ := hr.2.2 x hx
    rcases late_run (P := P) o h a.eval with ⟨u, hu⟩ | hu
    · rw [hu x] at h1; simp at h1
    · obtain ⟨hh, e⟩ := hu x
      rw [e] at h1
      cases h1
  | free v => exact ⟨v, fun _ _ => rfl, fun _ => rfl, fun _ => trivial, .inl ⟨hr.2.1, hr.2.2⟩⟩

def ordLate (fr : Oper → Nat) (md : Region.Mode) (ops : Array Oper) (n : Nat) : Bool :=
  (List.range n).all fun i => (match ops[i]? with | some oi => lateF fr oi | none => false) || (List.range ops.size).all fun t => decide (t < n) || waitsT md ops 5 t i
def ordB (fr : Oper → Nat) (md : Region.Mode) (ops : Array Oper) (n : Nat) : Bool :=
  Region.noSelect ops && decide (n ≤ ops.size) && ordLate fr md ops n && ordHead md ops (ops.size - n) n 0 (Array.replicate ops.size false)
theorem ordLate_spec {md : Region.Mode} {n : Nat} (h : ordLate fr md ops n = true) {i : Nat} (hi : i < n) {oi : Oper} (hoi : ops[i]? = some oi) (t : Nat) (ot : Oper) (ht : n ≤ t) (hot : ops[t]? = some ot) :
    (∃ f, waitsT md ops f t i = true) ∨ lateF fr oi = true := by
  have h1 := List.all_eq_true.1 h i (List.mem_range.2 hi)
  simp only [hoi, Bool.or_eq_true] at h1
  rcases h1 with h1 | h1
  · exact .inr h1
  · have h2 := List.all_eq_true.1 h1 t (List.mem_range.2 (Array.getElem?_eq_some_iff.1 hot).1)
    simp only [Bool.or_eq_true, decide_eq_true_eq] at h2
    rcases h2 with h2 | h2
    · omega
    · exact .inl ⟨5, h2⟩

/-- Whatever order is picked while operations of the head (the first n) are to come; 'g': how many there are behind the head. -/
def AO (fr : Oper → Nat) (Ψ : Oper → Out → Prop) (P : Program) (md : Region.Mode) (ops : Array Oper) (Q : Exit → Act → World → Prop) (w0 : World) (n g : Nat) : Nat → Array Bool → Env → Act → Prop
  | 0, listed, E, a => ∀ w, Cl w0 E w → (∀ j ∈ Region.ready md ops listed, n ≤ j) ∧ wpAny P md ops Q g listed a w
  | f + 1, listed, E, a => ∀ w, Cl w0 E w → Region.ready md ops listed ≠ [] ∧
      (∀ j ∈ Region.ready md ops listed, j < n → ∃ o k, ops[j]? = some o ∧ Runs fr Ψ P ops w0 (E.only ops o) o a k ∧
        ∀ ω, Fits Ψ P w0 (E.only ops o) o a k ω → AO fr Ψ P md ops Q w0 n g f (listed.setIfInBounds j true) (k.env o ω E) (a.put o.dst (k.res o ω))) ∧
      ((∃ j ∈ Region.ready md ops listed, n ≤ j) → wpAny P md ops Q (f + 1 + g) listed a w)

theorem AO.any {n g : Nat} : ∀ (f : Nat) (listed : Array Bool) (E : Env) (a : Act) (w : World), AO fr Ψ P md ops Q w0 n g f listed E a → Cl w0 E w → wpAny P md ops Q (f + g) listed a w
  | 0, listed, E, a, w, h, hw => by rw [Nat.zero_add]; exact (h w hw).2
  | f + 1, listed, E, a, w, h, hw => by
    obtain ⟨hne, hA, hB⟩ := h w hw
    by_cases ht : ∃ j ∈ Region.ready md ops listed, n ≤ j
    · exact hB ht
    · have e : f + 1 + g = (f + g) + 1 := by omega
      rw [e]
      refine ⟨fun h0 => absurd h0 hne, fun j hj => ?_⟩
      have hjn : j < n := Nat.lt_of_not_le fun hh => ht ⟨j, hj, hh⟩
      obtain ⟨o, k, ho, hr, hk⟩ := hA j hj hjn
      exact hr.wpOp ho hw fun ω y hω hy => AO.any f _ _ _ y (hk ω hω) hy

/-- An operation of the head that may come up may be taken first. -/
theorem AO.first {n g i : Nat} {oi : Oper} {ki : Kind} (hi : ops[i]? = some oi) (hin : i < n) (hsel : ∀ (j : Nat) (o : Oper) cs b, ops[j]? = some o → o.op ≠ .select cs b)
    (hQ : ∀ c a v w, Q (.panic c) (a.put oi.dst v) w → Q (.panic c) a w)
    (hlate : ∀ (t : Nat) (ot : Oper), n ≤ t → ops[t]? = some ot → (∃ f, waitsT md ops f t i = true) ∨ lateF fr oi = true) (f : Nat) :
    ∀ (listed : Array Bool) (E : Env) (a : Act), Closed md ops listed →
      (∀ j oj, ops[j]? = some oj → j ≠ i → listed.getD j true = false → (∀ e ∈ oj.after, Region.binds md e = true → e.on ≠ i) → oi.apart ops oj = true) →
      i ∈ Region.ready md ops listed → Runs fr Ψ P ops w0 (E.only ops oi) oi a ki →
      (∀ ω, Fits Ψ P w0 (E.only ops oi) oi a ki ω → AO fr Ψ P md ops Q w0 n g f (listed.setIfInBounds i true) (ki.env oi ω E) (a.put oi.dst (ki.res oi ω))) → AO fr Ψ P md ops Q w0 n g (f + 1) listed E a := by
  -- at a tail's operation that comes up while this one is to come: this one asks nothing of the world
  have tail : ∀ (f : Nat) (listed : Array Bool) (E : Env) (a : Act) (w : World), Closed md ops listed → Cl w0 E w →
      (∀ j oj, ops[j]? = some oj → j ≠ i → listed.getD j true = false → (∀ e ∈ oj.after, Region.binds md e = true → e.on ≠ i) → oi.apart ops oj = true) →
      i ∈ Region.ready md ops listed → Runs fr Ψ P ops w0 (E.only ops oi) oi a ki →
      (∀ ω, Fits Ψ P w0 (E.only ops oi) oi a ki ω → AO fr Ψ P md ops Q w0 n g f (listed.setIfInBounds i true) (ki.env oi ω E) (a.put oi.dst (ki.res oi ω))) →
      (∃ j ∈ Region.ready md ops listed, n ≤ j) → wpAny P md ops Q (f + 1 + g) listed a w := by
    intro f listed E a w hcl hw hfree hr hy H ht
    obtain ⟨t, htr, htn⟩ := ht
    obtain ⟨_, ot, hot, hall⟩ := mem_ready.1 htr
    have hla : lateF fr oi = true := by
      rcases hlate t ot htn hot with ⟨f, hf⟩ | h
      · have h1 := waitsT_listed hcl f t hf fun ot' hot' => by
          rw [hot] at hot'; cases hot'; exact hall
        rw [getD_both (mem_ready.1 hr).1] at h1
        cases h1
      · exact h
    obtain ⟨v, henv, hres, hfit, hyl⟩ := late_yields hla hy (hw.only oi)
    have h0 := H ⟨0, v, .map #[] 0, true⟩ (hfit _)
    rw [henv, hres] at h0
    have h1 := AO.any f _ _ _ w h0 hw
    have e : f + 1 + g = (f + g) + 1 := by omega
    rw [e]
    exact wpAny_first hi hsel (fun c a w => hQ c a v w) (f + g) listed a w hfree hr hyl h1
  induction f with
  | zero =>
    intro listed E a hcl hfree hr hy H w hw
    refine ⟨fun h => (by rw [h] at hr; cases hr), fun j hj hjn => ?_, tail 0 listed E a w hcl hw hfree hr hy H⟩
    by_cases hji : j = i
    · subst hji
      exact ⟨oi, ki, hi, hy, H⟩
    · -- no other operation of the head is left
      exfalso
      have hx := hy.out hw
      obtain ⟨ω, w', hω, hw'⟩ := hx
      have := (H ω hω w' hw').1 j (ready_mono hj hji)
      omega
  | succ f ih =>
    intro listed E a hcl0 hfree hr hy H w hw
    refine ⟨fun h => (by rw [h] at hr; cases hr), fun j hj hjn => ?_, tail (f + 1) listed E a w hcl0 hw hfree hr hy H⟩
    by_cases hji : j = i
    · subst hji
      exact ⟨oi, ki, hi, hy, H⟩
    · have hx := hy.out hw
      obtain ⟨ω0, w1, hω0, hw1⟩ := hx
      obtain ⟨hjun, oj, hoj, hall⟩ := mem_ready.1 hj
      have hap : oi.apart ops oj = true := hfree j oj hoj hji hjun fun e he hb heq => by
        have h1 := hall e he hb
        rw [heq, getD_both (mem_ready.1 hr).1] at h1
        cases h1
      obtain ⟨ap1, ap2, ap3⟩ := Oper.apart_spec hap
      have hj' := ready_mono hj hji
      obtain ⟨oj', kj, hoj', hrj, _⟩ := (H ω0 hω0 w1 hw1).2.1 j hj' hjn
      rw [hoj] at hoj'
      cases hoj'
      rw [Env.only_env ki ω0 ap1, Runs.put (hsel j oj · · hoj) ap1] at hrj
      refine ⟨oj, kj, hoj, hrj, fun ωj hωj => ?_⟩
      refine ih (listed.setIfInBounds j true) (kj.env oj ωj E) (a.put oj.dst (kj.res oj ωj)) (hcl0.set hj) (fun k ok hk hki hkun hno => ?_) (ready_mono hr (Ne.symm hji)) ?_ fun ωi hωi => ?_
      · refine hfree k ok hk hki ?_ hno
        by_cases hjk : j = k
        · subst hjk
          exact hjun
        · rwa [getD_set_ne true hjk] at hkun
      · rw [Env.only_env kj ωj ap3, Runs.put (hsel i oi · · hi) ap3]
        exact hy
      · -- from what is known behind 'i', at any world of the class
        rw [Env.only_env kj ωj ap3, Fits.put (hsel i oi · · hi) ap3] at hωi
        have big : ∀ w', Cl w0 (ki.env oi ωi E) w' → AO fr Ψ P md ops Q w0 n g f ((listed.setIfInBounds i true).setIfInBounds j true) (kj.env oj ωj (ki.env oi ωi E)) ((a.put oi.dst (ki.res oi ωi)).put oj.dst (kj.res oj ωj)) := by
          intro w' hw'
          obtain ⟨oj', kj', hoj', hrj', hk'⟩ := (H ωi hωi w' hw').2.1 j hj' hjn
          rw [hoj] at hoj'
          cases hoj'
          rw [Env.only_env ki ωi ap1, Runs.put (hsel j oj · · hoj) ap1] at hrj'
          have hcl : Cl w0 (E.only ops oj) w' := by
            have := hw'.only (ops := ops) oj
            rwa [Env.only_env ki ωi ap1] at this
          have hkk : kj' = kj := Runs.det hrj' hrj hcl
          subst hkk
          exact hk' ωj (by rw [Env.only_env ki ωi ap1, Fits.put (hsel j oj · · hoj) ap1]; exact hωj)
        have conv : AO fr Ψ P md ops Q w0 n g f ((listed.setIfInBounds j true).setIfInBounds i true) (ki.env oi ωi (kj.env oj ωj E)) ((a.put oj.dst (kj.res oj ωj)).put oi.dst (ki.res oi ωi)) ↔
            AO fr Ψ P md ops Q w0 n g f ((listed.setIfInBounds i true).setIfInBounds j true) (kj.env oj ωj (ki.env oi ωi E)) ((a.put oi.dst (ki.res oi ωi)).put oj.dst (kj.res oj ωj)) := by
          rw [Kind.env_comm ki kj ωi ωj, Array.setIfInBounds_comm _ _ (fun e => hji e), ← Act.put_comm a _ _ ap2]
        rw [conv]
        -- the statement asks for every world of the class: take that world
        have sub : ∀ w', Cl w0 (kj.env oj ωj (ki.env oi ωi E)) w' → Cl w0 (ki.env oi ωi E) w' := fun w' hw' => hw'.sub fun s C u hs => Kind.env_le oj kj ωj s C u hs
        cases f with
        | zero => exact fun w' hw' => big w' (sub w' hw') w' hw'
        | succ f => exact fun w' hw' => big w' (sub w' hw') w' hw'

def wpLex (fr : Oper → Nat) (Ψ : Oper → Out → Prop) (P : Program) (ops : Array Oper) (Q : Exit → Act → World → Prop) (w0 : World) (tail : List Oper) : List Oper → Env → Act → Prop
  | [], E, a => ∀ x, Cl w0 E x → wpList P ops Q tail a x
  | o :: rest, E, a => (∃ x, Cl w0 E x) → ∃ k, Runs fr Ψ P ops w0 (E.only ops o) o a k ∧ ∀ ω, Fits Ψ P w0 (E.only ops o) o a k ω → wpLex fr Ψ P ops Q w0 tail rest (k.env o ω E) (a.put o.dst (k.res o ω))

theorem AO.lex {n g : Nat} {tail : List Oper} (hsel : Region.noSelect ops = true) (hQ : ∀ c a d v w, Q (.panic c) (a.put d v) w → Q (.panic c) a w) (hl : ordLate fr md ops n = true) (htail : ∀ j, tail[j]? = ops[n + j]?) (hg : tail.length = g) :
    ∀ (l : List Oper) (k : Nat) (listed : Array Bool) (E : Env) (a : Act), Closed md ops listed → (∀ j, j < l.length → l[j]? = ops[k + j]?) → k + l.length = n → ordHead md ops g l.length k listed = true →
    wpLex fr Ψ P ops Q w0 tail l E a → AO fr Ψ P md ops Q w0 n g l.length listed E a
  | [], k, listed, E, a, _, _, hk, hB, h => by
    have hkn : k = n := by simpa using hk
    subst hkn
    simp only [List.length_nil, ordHead, Bool.and_eq_true] at hB
    refine fun w hw => ⟨fun j hj => by simpa using List.all_eq_true.1 hB.2 j hj, ?_⟩
    subst hg
    exact wpAny_of_seq tail k listed a w htail hB.1 (h w hw)
  | o :: l, k, listed, E, a, hcl, hll, hk, hB, h => by
    simp only [List.length_cons] at hk
    simp only [List.length_cons, ordHead, Bool.and_eq_true] at hB
    have h0 : ops[k]? = some o := by simpa using (hll 0 (by simp)).symm
    by_cases hne : ∃ x, Cl w0 E x
    · obtain ⟨kd, hr, hrest⟩ := h hne
      refine AO.first h0 (by omega) (Region.noSelect_spec hsel) (fun c a v w => hQ c a o.dst v w) (fun t ot ht hot => ordLate_spec hl (by omega) h0 t ot ht hot) l.length listed E a hcl (Region.free_spec h0 hB.1.2) (by simpa using hB.1.1) hr fun ω hω => ?_
      exact AO.lex hsel hQ hl htail hg l (k + 1) _ _ _ (hcl.set (by simpa using hB.1.1)) (fun j hj => by have := hll (j + 1) (by simp; omega); simpa [Nat.add_assoc, Nat.add_comm 1 j] using this) (by omega) hB.2 (hrest ω hω)
    · exact fun w hw => absurd ⟨w, hw⟩ hne

theorem wp_region_ord {id : Nat} {a : Act} {w : World} {l : List Oper} (n : Nat) (hm : P.follows .mixedOrders = true) (hB : ordB fr .any l.toArray n = true)
    (hQ : ∀ c a d v w, Q (.panic c) (a.put d v) w → Q (.panic c) a w)
    (h : wpLex fr Ψ P l.toArray Q w.drew (l.drop n) (l.take n) Env.none a) : (Code.region id l.toArray true).wp P Q a w := by
  simp only [ordB, Bool.and_eq_true, decide_eq_true_eq] at hB
  obtain ⟨⟨⟨hsel, hn⟩, hl⟩, hh⟩ := hB
  have hn' : n ≤ l.length := by simpa using hn
  have htl : (l.take n).length = n := by simp; omega
  have hdl : (l.drop n).length = l.toArray.size - n := by simp
  have H := AO.lex (md := .any) (g := l.toArray.size - n) hsel hQ hl (fun j => by simp [List.getElem?_drop]) hdl (l.take n) 0 _ Env.none a (Closed.none _) (fun j hj => by
    have hj' : j < n := by rw [htl] at hj; exact hj
    simp [hj']) (by simpa using htl) (by rw [htl]; exact hh) h
  refine wp_region_any hm ?_
  have := AO.any _ _ _ _ w.drew H ⟨Below.refl _ _, fun s B o e => e.elim⟩
  rw [htl, show n + (l.toArray.size - n) = l.toArray.size by omega] at this
  exact this

/-! ### The moves of a walk -/
variable {tail rest : List Oper} {o : Oper} {a : Act}
theorem wpLex_nil (h : ∀ x, Cl w0 E x → wpList P ops Q tail a x) : wpLex fr Ψ P ops Q w0 tail [] E a := h
theorem wpLex_skip (hna : sp fr o = 0) (hw : Region.wanted o (yielded ops a.tmps) = false) (h : wpLex fr Ψ P ops Q w0 tail rest E (a.put o.dst undef)) : wpLex fr Ψ P ops Q w0 tail (o :: rest) E a :=
  fun _ => ⟨.val undef, ⟨hna, .inr ⟨hw, rfl⟩⟩, fun _ _ => h⟩
theorem wpLex_fix (hna : sp fr o = 0) (hw : Region.wanted o (yielded ops a.tmps) = true)
    (h : ∀ F : Env, Hid (∀ s B u, (o.looksAt ops).contains s = true → E s B u → F s B u) → ∀ R, GrowsUp R → Nonempty (GrE w0 F R) → ∀ K : Act → Prop, (∀ a', wpLex fr Ψ P ops Q w0 tail rest E a' → K a') → o.quiet P a (fun x => ∃ g : GrE w0 F R, x = g.1) K) :
    wpLex fr Ψ P ops Q w0 tail (o :: rest) E a := by
  rintro ⟨x0, hx0⟩
  replace h := h (E.only ops o) (fun s B u h1 h2 => ⟨h1, h2⟩)
  obtain ⟨v, hv, hk⟩ := h (fun _ => True) (fun _ _ _ _ => trivial) ⟨⟨x0, hx0.only o, trivial⟩⟩ (wpLex fr Ψ P ops Q w0 tail rest E) (fun _ h => h)
  refine ⟨.val v, ⟨hna, .inl ⟨hw, fun x hx => ?_⟩⟩, fun _ _ => hk⟩
  have h1 := hv x ⟨⟨x, hx, trivial⟩, rfl⟩
  obtain ⟨u, hu, _⟩ := h (fun y => Below x.heap.size x y) (fun y z hy hz => hy.trans (hz.mono hy.size)) ⟨⟨x, hx, Below.refl _ _⟩⟩ (fun _ => True) (fun _ _ => trivial)
  have h2 := hu x ⟨⟨x, hx, Below.refl _ _⟩, rfl⟩
  have : v = u := quietUpon_det h1 h2
  subst this
  exact quietUpon_mono (fun y ⟨g, hg⟩ => hg ▸ g.2.2) h2
theorem wpLex_blk (hna : sp fr o = 0) (hw : Region.wanted o (yielded ops a.tmps) = true) (obj : Obj) (hrun : ∀ x, Cl w0 (E.only ops o) x → (execOp a.eval o).run P x = .ok (.value (blkVal o x.heap.size)) (x.alloc obj))
    (h : ∀ B, w0.heap.size ≤ B → wpLex fr Ψ P ops Q w0 tail rest (E.upd o.dst B obj) (a.put o.dst (blkVal o B))) : wpLex fr Ψ P ops Q w0 tail (o :: rest) E a :=
  fun _ => ⟨.blk obj, ⟨hna, hw, hrun⟩, fun ω hω => h ω.B hω⟩
/-- A call: whatever it returns, a fact about it is known. -/
theorem wpLex_call (hs : sp fr o = 2) (hgd : o.guard = none) (f : FuncId) (args : Array Value) (hrun : ∀ x, Cl w0 (E.only ops o) x → (execOp a.eval o).run P x = .ok (.enter f args) x)
    (hc : ∀ x, Cl w0 (E.only ops o) x → Calls P f args x fun e y => ∃ ω : Out, e = .returned ω.v ∧ Below x.heap.size x y ∧ (ω.got = true → w0.heap.size ≤ ω.B ∧ y.heap[ω.B]? = some ω.obj) ∧ Ψ o ω)
    (h : ∀ ω : Out, Ψ o ω → (ω.got = true → w0.heap.size ≤ ω.B) → wpLex fr Ψ P ops Q w0 tail rest (if ω.got then E.upd o.dst ω.B ω.obj else E) (a.put o.dst ω.v)) : wpLex fr Ψ P ops Q w0 tail (o :: rest) E a :=
  fun _ => ⟨.call, ⟨hs, by simp [Region.wanted, hgd], fun x hx => ⟨f, args, hrun x hx, hc x hx⟩⟩, fun ω hω => h ω hω.1 hω.2⟩
/-- What asks nothing of the world, by its values. -/
theorem wpLex_free (hs : sp fr o = 3) (hgd : o.guard = none) (v : Value) (hrun : ∀ x, (execOp a.eval o).run P x = .ok (.value v) x) (h : wpLex fr Ψ P ops Q w0 tail rest E (a.put o.dst v)) : wpLex fr Ψ P ops Q w0 tail (o :: rest) E a :=
  fun _ => ⟨.free v, ⟨hs, by simp [Region.wanted, hgd], hrun⟩, fun _ _ => h⟩
/-- An append onto a row of one place that is full: whatever row comes out. -/
theorem wpLex_app (hgd : o.guard = none) (s x : Operand) (t tx : TypeId) (ho : o.op = .call { callee := .builtin .append, args := #[s, x], argTypes := #[t, tx] })
    (base : Nat) (e : TypeId) (i : TypeInfo) (z : Value) (bytes : Nat) (ht : P.underlying t = some (.slice e)) (hi : P.info? e = some i) (hz : i.zero = some z) (hsize : i.size = 1) (hby : i.bytes = bytes) (hzs : z.cells.size = 1)
    (B0 : Nat) (u : Value) (hv : a.eval s = .slice (some ⟨B0, 0, none⟩) 1 1) (hB0 : w0.heap.size ≤ B0) (hbase : base ≤ w0.heap.size) (hlit : ∀ x, Cl w0 (E.only ops o) x → x.heap[B0]? = some (.cells #[u] e (0, 0)))
    (X : Value) (m : Nat) (news : List Value) (hX : a.eval x = X) (hs : ∀ x, Cl w0 (E.only ops o) x → Src P 1 tx X m news x) (h63 : 1 + m ≤ maxLen) (hbytes : (1 + m) * bytes ≤ 140737488355328)
    (h : ∀ g cap obj, w0.heap.size ≤ g → (∀ y : World, y.heap[g]? = some obj → y.ownsRow base e 1 (.slice (some ⟨g, 0, none⟩) (1 + m) cap) (1 + m) (u :: news)) → wpLex fr Ψ P ops Q w0 tail rest (E.upd o.dst g obj) (a.put o.dst (.slice (some ⟨g, 0, none⟩) (1 + m) cap))) :
    wpLex fr Ψ P ops Q w0 tail (o :: rest) E a := by
  subst hby
  have hw : Region.wanted o (yielded ops a.tmps) = true := by simp [Region.wanted, hgd]
  have hap : sp fr o = 1 := by unfold sp isApp; rw [ho]; rfl
  have hrun : ∀ x, Cl w0 (E.only ops o) x → ∃ g cap obj w', (execOp a.eval o).run P x = .ok (.value (.slice (some ⟨g, 0, none⟩) (1 + m) cap)) w' ∧ Below x.heap.size x w' ∧ w0.heap.size ≤ g ∧ w'.heap[g]? = some obj ∧
      (∀ y : World, y.heap[g]? = some obj → y.ownsRow base e 1 (.slice (some ⟨g, 0, none⟩) (1 + m) cap) (1 + m) (u :: news)) := by
    intro y hy
    have hl := hlit y hy
    have hy0 := hy.below.size
    have hS := hs y hy
    by_cases hm : m = 0
    · subst hm
      have hn : news = [] := List.eq_nil_of_length_eq_zero (by simpa using hS.newsLen)
      subst hn
      refine ⟨B0, 1, _, y, ?_, Below.refl _ _, hB0, hl, fun y' hy' => ⟨rfl, .inr ⟨B0, 1, #[u], rfl, by omega, hy', Nat.le_refl _, by unfold maxLen; omega, rfl, rfl⟩⟩⟩
      have hr := run_append_nothing (P := P) y t tx o.type e i ht hi (some ⟨B0, 0, none⟩) 1 1 (Nat.le_refl _) X (hsize ▸ hS)
      unfold execOp
      simp only [ho, resolve, invoke, builtin, Sem.run_bind, Sem.run_pure, Result.andThen_ok, List.map_toArray, List.map_cons, List.map_nil, hv, hX, hr]
    · have hold : (Builtin.firstCells i.size 1 (.slice (some ⟨B0, 0, none⟩) 1 1)).run P y.drew = .ok [u].toArray y.drew := by
        refine run_firstCells_some (P := P) y.drew i.size 1 ⟨B0, 0, none⟩ 1 1 [u] (by rw [hsize]; rfl) fun j v hj => ?_
        have hj0 : j = 0 := by
          have := (List.getElem?_eq_some_iff.1 hj).1
          simp at this; exact this
        subst hj0
        simp at hj
        subst hj
        have := cell_of_row y B0 0 #[u] e (0, 0) hl
        simpa [Addr.add] using this
      have hr := run_append_grow_src (P := P) y t tx o.type e i z ht hi hz (some ⟨B0, 0, none⟩) 1 1 [u] hold X m news (hsize ▸ hS) (by omega) (by unfold maxLen at h63; omega) (growslice_fits (by omega) hbytes)
      have hex : (execOp a.eval o).run P y = .ok (.value (.slice (some ⟨y.heap.size, 0, none⟩) (1 + m) (grownCap y (1 + m) 1 e))) (y.drew.alloc (.cells (([u] ++ news).toArray ++ Builtin.zeroCells z.cells (grownCap y (1 + m) 1 e - (1 + m))) e)) := by
        unfold execOp
        simp only [ho, resolve, invoke, builtin, Sem.run_bind, Sem.run_pure, Result.andThen_ok, List.map_toArray, List.map_cons, List.map_nil, hv, hX, hr]
      refine ⟨y.heap.size, _, _, _, hex, ((Below.refl y.heap.size y).drew).alloc (Nat.le_refl _) _, hy0, heap_alloc_new y.drew _, fun y' hy' => ⟨?_, .inr ⟨y.heap.size, _, _, rfl, by omega, hy', grownCap_ge y (1 + m) 1 e, grownCap_le_maxLen y (1 + m) 1 e h63, ?_, ?_⟩⟩⟩
      · have := hS.newsLen; simp at this ⊢; omega
      · have h1 := grownCap_ge y (1 + m) 1 e
        have h2 := hS.newsLen
        simp only [Array.size_append, List.size_toArray, List.length_append, List.length_cons, List.length_nil, size_zeroCells, hzs]
        omega
      · have h2 := hS.newsLen
        simp only [Array.toList_append]
        rw [List.take_append_of_le_length (by simp; omega)]
        rw [List.take_of_length_le (by simp; omega)]
        rfl
  intro hne
  refine ⟨.app, ⟨hap, hw, fun x hx => ?_⟩, fun ω hω => ?_⟩
  · obtain ⟨g, cap, obj, w', h1, h2, h3, h4, _⟩ := hrun x hx
    exact ⟨_, w', g, obj, h1, h2, h3, rfl, h4⟩
  · obtain ⟨hB, hv0, x, y, hx, hex, hyB⟩ := hω
    obtain ⟨g, cap, obj, w', h1, h2, h3, h4, h5⟩ := hrun x hx
    rw [h1] at hex
    simp only [Result.ok.injEq, Next.value.injEq] at hex
    obtain ⟨e1, rfl⟩ := hex
    obtain ⟨ωB, ωv, ωo⟩ := ω
    simp only at e1 hv0 hyB
    subst e1
    have e2 : g = ωB := by simpa [Value.ownBlock] using hv0
    subst e2
    rw [h4] at hyB
    injection hyB with e3
    subst e3
    exact h g cap obj h3 h5
end
end Go.Proofs.Ytimheacdaafodaa.OrdC
