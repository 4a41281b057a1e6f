/- Regions that draw their order: operations that only read, calls that may make memory, and operations that lay a fresh block (alloc, buildSlice), in whatever order; then a tail in one forced order. One walk in the order of the text serves every order. No program. -/
import Derived.Test.YtjbbhfloomejoaaGrow
import Derived.Test.YtjbbhfloomejoaaUnique
import Derived.StillTail
namespace Go.Proofs.Ytjbbhfloomejoaa
open Go.RowKit

/-- What is known of blocks that the region's own operations have laid: by slot. -/
abbrev Env := Nat → Nat → Obj → Prop
def Env.upd (E : Env) (d : Option Nat) (B : Nat) (o : Obj) : Env := fun s C u => E s C u ∨ (d = some s ∧ C = B ∧ u = o)
def Env.only (ops : Array Oper) (o : Oper) (E : Env) : Env := fun s C u => (o.looksAt ops).contains s = true ∧ E s C u
def Env.none : Env := fun _ _ _ => False

/-- All that stood at the region's head is as it was, and the blocks that are known hold what is known. -/
structure Cl (w0 : World) (E : Env) (x : World) : Prop where
  below : Below w0.heap.size w0 x
  fact : ∀ s B o, E s B o → w0.heap.size ≤ B ∧ x.heap[B]? = some o

section
variable {P : Program} {ops : Array Oper} {md : Region.Mode} {Q : Exit → Act → World → Prop} {w0 x y : World} {E F : Env}

theorem Cl.grow (h : Cl w0 E x) (k : Below x.heap.size x y) : Cl w0 E y :=
  ⟨h.below.trans (k.mono h.below.size), fun s B o e => by
    obtain ⟨h1, h2⟩ := h.fact s B o e
    exact ⟨h1, (k.block B (Array.getElem?_eq_some_iff.1 h2).1).trans h2⟩⟩
theorem Cl.sub (h : Cl w0 E x) (hs : ∀ s B o, F s B o → E s B o) : Cl w0 F x := ⟨h.below, fun s B o e => h.fact s B o (hs s B o e)⟩
theorem Cl.only (h : Cl w0 E x) (o : Oper) : Cl w0 (E.only ops o) x := h.sub fun _ _ _ e => e.2
theorem Cl.upd (h : Cl w0 E x) (d : Option Nat) (obj : Obj) : Cl w0 (E.upd d x.heap.size obj) (x.alloc obj) := by
  have hg := h.grow (y := x.alloc obj) ((Below.refl _ _).alloc (Nat.le_refl _) _)
  refine ⟨hg.below, fun s B o e => ?_⟩
  rcases e with e | ⟨_, rfl, rfl⟩
  · exact hg.fact s B o e
  · exact ⟨h.below.size, heap_alloc_new x _⟩

/-- The value of an operation that lays block number B. -/
def blkVal (o : Oper) (B : Nat) : Value := match o.op with | .buildSlice _ n _ => .slice (some ⟨B, 0, none⟩) n n | _ => .pointer (some ⟨B, 0, none⟩)
/-- What an operation comes to: one value; or a fresh block that holds this. -/
abbrev Kind := Value ⊕ Obj
def Kind.res (o : Oper) (k : Kind) (B : Nat) : Value := match k with | .inl v => v | .inr _ => blkVal o B
def Kind.env (o : Oper) (k : Kind) (B : Nat) (E : Env) : Env := match k with | .inl _ => E | .inr obj => E.upd o.dst B obj

def Runs (P : Program) (ops : Array Oper) (w0 : World) (F : Env) (o : Oper) (a : Act) : Kind → Prop
  | .inl v => (Region.wanted o (yielded ops a.tmps) = true ∧ ∀ x, Cl w0 F x → o.quietAt P a (fun y => Below x.heap.size x y) x v) ∨ (Region.wanted o (yielded ops a.tmps) = false ∧ v = undef)
  | .inr obj => Region.wanted o (yielded ops a.tmps) = true ∧ ∀ x, Cl w0 F x → (execOp a.eval o).run P x = .ok (.value (blkVal o x.heap.size)) (x.alloc obj)

theorem alloc_ne (x : World) (o : Obj) : x.alloc o ≠ x := fun h => by
  have := congrArg (fun w : World => w.heap.size) h
  simp at this
theorem alloc_inj {x : World} {o1 o2 : Obj} (h : x.alloc o1 = x.alloc o2) : o1 = o2 := by
  have h1 := heap_alloc_new x o1
  rw [h, heap_alloc_new x o2] at h1
  exact (Option.some.inj h1).symm

theorem quietUpon_det {C D : World → Prop} {v u : Value} {r : Result Next} (h1 : Oper.quietUpon P C x v r) (h2 : Oper.quietUpon P D x u r) : v = u := by
  cases r with
  | ok n w' =>
    cases n <;> simp only [Oper.quietUpon] at h1 h2
    case value => rw [← h1.2, ← h2.2]
    case skip => rw [h1.2, h2.2]
    case enter f args =>
      obtain ⟨rfl, c1⟩ := h1
      exact Calls.unique (c1.mono fun _ _ h => h.1) (h2.2.mono fun _ _ h => h.1)
  | halt => simp only [Oper.quietUpon] at h1

theorem Runs.det {o : Oper} {a : Act} : ∀ {k1 k2 : Kind}, Runs P ops w0 F o a k1 → Runs P ops w0 F o a k2 → Cl w0 F x → k1 = k2
  | .inl v, .inl u, h1, h2, hx => by
    rcases h1 with ⟨w1, h1⟩ | ⟨w1, h1⟩ <;> rcases h2 with ⟨w2, h2⟩ | ⟨w2, h2⟩
    · exact congrArg _ (quietUpon_det (h1 x hx) (h2 x hx))
    · rw [w1] at w2; cases w2
    · rw [w1] at w2; cases w2
    · rw [h1, h2]
  | .inl v, .inr o2, h1, h2, hx => by
    rcases h1 with ⟨w1, h1⟩ | ⟨w1, h1⟩
    · have := h1 x hx
      unfold Oper.quietAt at this
      rw [h2.2 x hx] at this
      exact absurd this.1 (alloc_ne x o2)
    · have := h2.1; rw [w1] at this; cases this
  | .inr o1, .inl u, h1, h2, hx => by
    rcases h2 with ⟨w2, h2⟩ | ⟨w2, h2⟩
    · have := h2 x hx
      unfold Oper.quietAt at this
      rw [h1.2 x hx] at this
      exact absurd this.1 (alloc_ne x o1)
    · have := h1.1; rw [w2] at this; cases this
  | .inr o1, .inr o2, h1, h2, hx => by
    have := (h1.2 x hx).symm.trans (h2.2 x hx)
    simp only [Result.ok.injEq] at this
    exact congrArg _ (alloc_inj this.2)

theorem Runs.put {o : Oper} {a : Act} {dst : Option Tmp} {u : Value} (hs : ∀ cs b, o.op ≠ .select cs b) (h : ∀ d, dst = some d → d ∉ o.looksAt ops) (k : Kind) : Runs P ops w0 F o (a.put dst u) k ↔ Runs P ops w0 F o a k := by
  cases k <;> simp only [Runs, Oper.quietAt, execOp_put o hs a dst u h, wanted_put o a dst u h]
theorem Env.only_env {oi oj : Oper} (k : Kind) (B : Nat) (h : ∀ d, oi.dst = some d → d ∉ oj.looksAt ops) : (k.env oi B E).only ops oj = E.only ops oj := by
  cases k with
  | inl v => rfl
  | inr obj =>
    funext s C u
    apply propext
    exact ⟨fun ⟨h1, h2⟩ => ⟨h1, h2.resolve_right fun h3 => h s h3.1 (by simpa using h1)⟩, fun ⟨h1, h2⟩ => ⟨h1, .inl h2⟩⟩
theorem Kind.env_comm {oi oj : Oper} (ki kj : Kind) (Bi Bj : Nat) : ki.env oi Bi (kj.env oj Bj E) = kj.env oj Bj (ki.env oi Bi E) := by
  cases ki with
  | inl _ => rfl
  | inr obi =>
    cases kj with
    | inl _ => rfl
    | inr obj =>
      funext s C u
      apply propext
      exact ⟨fun h => by rcases h with (h | h) | h <;> simp [Kind.env, Env.upd, h], fun h => by rcases h with (h | h) | h <;> simp [Kind.env, Env.upd, h]⟩
theorem Kind.env_le (o : Oper) (k : Kind) (B : Nat) (s C : Nat) (u : Obj) (h : E s C u) : k.env o B E s C u := by
  cases k with
  | inl _ => exact h
  | inr _ => exact .inl h

theorem Runs.wpOp {i : Nat} {o : Oper} {a : Act} {k : Kind} (hi : ops[i]? = some o) (h : Runs P ops w0 (E.only ops o) o a k) (hx : Cl w0 E x) {K : Act → World → Prop}
    (hK : ∀ B y, w0.heap.size ≤ B → Cl w0 (k.env o B E) y → K (a.put o.dst (k.res o B)) y) : Go.wpOp P ops Q i K a x := by
  unfold Go.wpOp
  simp only [hi]
  cases k with
  | inl v =>
    have hK' := fun y hy => hK w0.heap.size y (Nat.le_refl _) hy
    rcases h with ⟨hw, hv⟩ | ⟨hw, rfl⟩
    · rw [if_pos hw]
      refine .inl ?_
      have h3 := hv x (hx.only o)
      unfold Oper.quietAt at h3
      unfold Oper.wp
      generalize (execOp a.eval o).run P x = r at *
      cases r with
      | ok n w' =>
        cases n <;> simp only [Oper.quietUpon] at h3 <;> simp only [Oper.upon]
        case value u => obtain ⟨rfl, rfl⟩ := h3; exact hK' _ hx
        case skip => obtain ⟨rfl, rfl⟩ := h3; exact hK' _ hx
        case enter f args =>
          obtain ⟨rfl, hc⟩ := h3
          exact hc.mono fun e w'' ⟨he, hw''⟩ => by subst he; exact hK' _ (hx.grow hw'')
      | halt => simp only [Oper.quietUpon] at h3
    · rw [if_neg (by rw [hw]; decide)]
      exact hK' x hx
  | inr obj =>
    rw [if_pos h.1]
    refine .inl ?_
    unfold Oper.wp
    rw [h.2 x (hx.only o)]
    exact hK x.heap.size _ hx.below.size (hx.upd o.dst obj)

/-- An operation that asks nothing of the world. -/
def lateB (o : Oper) : Bool := match o.op with | .extract _ _ => true | .move _ => true | _ => false
theorem late_run (o : Oper) (h : lateB o = true) (ρ : Operand → Value) : (∃ v, ∀ x, (execOp ρ o).run P x = .ok (.value v) x) ∨ (∀ x, ∃ hh, (execOp ρ o).run P x = .halt hh x) := by
  unfold lateB at h
  split at h
  · rename_i t i ho
    unfold execOp
    rw [ho]
    simp only [Instr.extract]
    split
    · split
      · exact .inl ⟨_, fun x => rfl⟩
      · exact .inr fun x => ⟨_, rfl⟩
    · exact .inr fun x => ⟨_, rfl⟩
  · rename_i t ho
    refine .inl ⟨ρ t, fun x => ?_⟩
    unfold execOp; rw [ho]; rfl
  · cases h
theorem late_yields {o : Oper} {a : Act} {k : Kind} (h : lateB o = true) (hr : Runs P ops w0 F o a k) (hx : Cl w0 F x) : ∃ v, k = .inl v ∧ Yields P ops o v a := by
  cases k with
  | inl v =>
    refine ⟨v, rfl, ?_⟩
    rcases hr with ⟨hw, hv⟩ | hr
    · refine .inl ⟨hw, ?_⟩
      have := hv x hx
      unfold Oper.quietAt at this
      rcases late_run (P := P) o h a.eval with ⟨u, hu⟩ | hu
      · rw [hu x] at this
        simp only [Oper.quietUpon] at this
        rw [← this.2]
        exact hu
      · obtain ⟨hh, e⟩ := hu x
        rw [e] at this
        simp only [Oper.quietUpon] at this
    · exact .inr hr
  | inr obj =>
    have := hr.2 x hx
    rcases late_run (P := P) o h a.eval with ⟨u, hu⟩ | hu
    · rw [hu x] at this
      simp only [Result.ok.injEq] at this
      exact absurd this.2.symm (alloc_ne x obj)
    · obtain ⟨hh, e⟩ := hu x
      rw [e] at this
      cases this

/-- Whatever order is picked while operations of the head (the first n) are to come; 'g': how many there are behind the head. -/
def AO (P : Program) (md : Region.Mode) (ops : Array Oper) (Q : Exit → Act → World → Prop) (w0 : World) (n g : Nat) : Nat → Array Bool → Env → Act → Prop
  | 0, listed, E, a => ∀ w, Cl w0 E w → (∀ j ∈ Region.ready md ops listed, n ≤ j) ∧ wpAny P md ops Q g listed a w
  | f + 1, listed, E, a => ∀ w, Cl w0 E w → Region.ready md ops listed ≠ [] ∧
      (∀ j ∈ Region.ready md ops listed, j < n → ∃ o k, ops[j]? = some o ∧ Runs P ops w0 (E.only ops o) o a k ∧
        ∀ B, w0.heap.size ≤ B → AO P md ops Q w0 n g f (listed.setIfInBounds j true) (k.env o B E) (a.put o.dst (k.res o B))) ∧
      ((∃ j ∈ Region.ready md ops listed, n ≤ j) → wpAny P md ops Q (f + 1 + g) listed a w)

theorem AO.any {n g : Nat} : ∀ (f : Nat) (listed : Array Bool) (E : Env) (a : Act) (w : World), AO P md ops Q w0 n g f listed E a → Cl w0 E w → wpAny P md ops Q (f + g) listed a w
  | 0, listed, E, a, w, h, hw => by rw [Nat.zero_add]; exact (h w hw).2
  | f + 1, listed, E, a, w, h, hw => by
    obtain ⟨hne, hA, hB⟩ := h w hw
    by_cases ht : ∃ j ∈ Region.ready md ops listed, n ≤ j
    · exact hB ht
    · have e : f + 1 + g = (f + g) + 1 := by omega
      rw [e]
      refine ⟨fun h0 => absurd h0 hne, fun j hj => ?_⟩
      have hjn : j < n := Nat.lt_of_not_le fun hh => ht ⟨j, hj, hh⟩
      obtain ⟨o, k, ho, hr, hk⟩ := hA j hj hjn
      exact hr.wpOp ho hw fun B y hB hy => AO.any f _ _ _ y (hk B hB) hy

/-- What has come up has had all that it waits for. -/
def Closed (md : Region.Mode) (ops : Array Oper) (listed : Array Bool) : Prop :=
  ∀ (j : Nat) oj, ops[j]? = some oj → listed.getD j false = true → ∀ e ∈ oj.after, Region.binds md e = true → listed.getD e.on false = true
theorem getD_set_true {listed : Array Bool} {i : Nat} (h : i < listed.size) (d : Bool) : (listed.setIfInBounds i true).getD i d = true := by
  simp [Array.getD, h]
theorem getD_set_mono {listed : Array Bool} {i j : Nat} (h : listed.getD j false = true) : (listed.setIfInBounds i true).getD j false = true := by
  by_cases e : i = j
  · subst e
    by_cases hs : i < listed.size
    · exact getD_set_true hs false
    · rw [Array.setIfInBounds_eq_of_size_le (by omega)]; exact h
  · rw [getD_set_ne false e]; exact h
theorem Closed.set {listed : Array Bool} {i : Nat} (h : Closed md ops listed) (hr : i ∈ Region.ready md ops listed) : Closed md ops (listed.setIfInBounds i true) := by
  intro j oj hoj hl e he hb
  obtain ⟨_, o, ho, hall⟩ := mem_ready.1 hr
  by_cases eij : i = j
  · subst eij
    rw [hoj] at ho
    cases ho
    exact getD_set_mono (hall e he hb)
  · rw [getD_set_ne false eij] at hl
    exact getD_set_mono (h j oj hoj hl e he hb)
theorem Closed.none (n : Nat) : Closed md ops (Array.replicate n false) := by
  intro j oj _ hl
  exfalso
  simp [Array.getD] at hl
/-- t waits for i, itself or through others. -/
def waitsT (md : Region.Mode) (ops : Array Oper) : Nat → Nat → Nat → Bool
  | 0, t, i => Region.waitsFor md ops t i
  | f + 1, t, i => Region.waitsFor md ops t i || (match ops[t]? with | some ot => ot.after.any fun e => Region.binds md e && waitsT md ops f e.on i | none => false)
theorem waitsT_listed {listed : Array Bool} (hc : Closed md ops listed) {i : Nat} : ∀ (f t : Nat), waitsT md ops f t i = true → (∀ ot, ops[t]? = some ot → ∀ e ∈ ot.after, Region.binds md e = true → listed.getD e.on false = true) → listed.getD i false = true
  | 0, t, h, ha => by
    obtain ⟨ot, hot, e, he, hb, hon⟩ := Region.waitsFor_spec h
    rw [← hon]; exact ha ot hot e he hb
  | f + 1, t, h, ha => by
    unfold waitsT at h
    rw [Bool.or_eq_true] at h
    rcases h with h | h
    · obtain ⟨ot, hot, e, he, hb, hon⟩ := Region.waitsFor_spec h
      rw [← hon]; exact ha ot hot e he hb
    · split at h
      · rename_i ot hot
        obtain ⟨e, he, hb⟩ := Array.any_eq_true'.1 h
        rw [Bool.and_eq_true] at hb
        have hl := ha ot hot e he hb.1
        exact waitsT_listed hc f e.on hb.2 fun oj hoj e' he' hb' => hc e.on oj hoj hl e' he' hb'
      · cases h

/-- An operation of the head that may come up may be taken first. -/
theorem AO.first {n g i : Nat} {oi : Oper} {ki : Kind} (hi : ops[i]? = some oi) (hin : i < n) (hsel : ∀ (j : Nat) (o : Oper) cs b, ops[j]? = some o → o.op ≠ .select cs b)
    (hQ : ∀ c a v w, Q (.panic c) (a.put oi.dst v) w → Q (.panic c) a w)
    (hlate : ∀ (t : Nat) (ot : Oper), n ≤ t → ops[t]? = some ot → (∃ f, waitsT md ops f t i = true) ∨ lateB oi = true) (f : Nat) :
    ∀ (listed : Array Bool) (E : Env) (a : Act), Closed md ops listed →
      (∀ j oj, ops[j]? = some oj → j ≠ i → listed.getD j true = false → (∀ e ∈ oj.after, Region.binds md e = true → e.on ≠ i) → oi.apart ops oj = true) →
      i ∈ Region.ready md ops listed → Runs P ops w0 (E.only ops oi) oi a ki →
      (∀ B, w0.heap.size ≤ B → AO P md ops Q w0 n g f (listed.setIfInBounds i true) (ki.env oi B E) (a.put oi.dst (ki.res oi B))) → AO P md ops Q w0 n g (f + 1) listed E a := by
  -- at a tail's operation that comes up while this one is to come: this one asks nothing of the world
  have tail : ∀ (f : Nat) (listed : Array Bool) (E : Env) (a : Act) (w : World), Closed md ops listed → Cl w0 E w →
      (∀ j oj, ops[j]? = some oj → j ≠ i → listed.getD j true = false → (∀ e ∈ oj.after, Region.binds md e = true → e.on ≠ i) → oi.apart ops oj = true) →
      i ∈ Region.ready md ops listed → Runs P ops w0 (E.only ops oi) oi a ki →
      (∀ B, w0.heap.size ≤ B → AO P md ops Q w0 n g f (listed.setIfInBounds i true) (ki.env oi B E) (a.put oi.dst (ki.res oi B))) →
      (∃ j ∈ Region.ready md ops listed, n ≤ j) → wpAny P md ops Q (f + 1 + g) listed a w := by
    intro f listed E a w hcl hw hfree hr hy H ht
    obtain ⟨t, htr, htn⟩ := ht
    obtain ⟨_, ot, hot, hall⟩ := mem_ready.1 htr
    have hla : lateB oi = true := by
      rcases hlate t ot htn hot with ⟨f, hf⟩ | h
      · have h1 := waitsT_listed hcl f t hf fun ot' hot' => by
          rw [hot] at hot'; cases hot'; exact hall
        rw [getD_both (mem_ready.1 hr).1] at h1
        cases h1
      · exact h
    obtain ⟨v, rfl, hyl⟩ := late_yields hla hy (hw.only oi)
    have h1 := AO.any f _ _ _ w (H w0.heap.size (Nat.le_refl _)) hw
    have e : f + 1 + g = (f + g) + 1 := by omega
    rw [e]
    exact wpAny_first hi hsel (fun c a w => hQ c a v w) (f + g) listed a w hfree hr hyl h1
  induction f with
  | zero =>
    intro listed E a hcl hfree hr hy H w hw
    refine ⟨fun h => (by rw [h] at hr; cases hr), fun j hj hjn => ?_, tail 0 listed E a w hcl hw hfree hr hy H⟩
    by_cases hji : j = i
    · subst hji
      exact ⟨oi, ki, hi, hy, H⟩
    · -- no other operation of the head is left
      exfalso
      have hx : ∃ B w', w0.heap.size ≤ B ∧ Cl w0 (ki.env oi B E) w' := by
        cases ki with
        | inl v => exact ⟨w0.heap.size, w, Nat.le_refl _, hw⟩
        | inr obj => exact ⟨w.heap.size, _, hw.below.size, hw.upd oi.dst obj⟩
      obtain ⟨B, w', hB, hw'⟩ := hx
      have := (H B hB w' hw').1 j (ready_mono hj hji)
      omega
  | succ f ih =>
    intro listed E a hcl0 hfree hr hy H w hw
    refine ⟨fun h => (by rw [h] at hr; cases hr), fun j hj hjn => ?_, tail (f + 1) listed E a w hcl0 hw hfree hr hy H⟩
    by_cases hji : j = i
    · subst hji
      exact ⟨oi, ki, hi, hy, H⟩
    · have hx : ∃ B w', w0.heap.size ≤ B ∧ Cl w0 (ki.env oi B E) w' := by
        cases ki with
        | inl v => exact ⟨w0.heap.size, w, Nat.le_refl _, hw⟩
        | inr obj => exact ⟨w.heap.size, _, hw.below.size, hw.upd oi.dst obj⟩
      obtain ⟨B0, w1, hB0, hw1⟩ := hx
      obtain ⟨hjun, oj, hoj, hall⟩ := mem_ready.1 hj
      have hap : oi.apart ops oj = true := hfree j oj hoj hji hjun fun e he hb heq => by
        have h1 := hall e he hb
        rw [heq, getD_both (mem_ready.1 hr).1] at h1
        cases h1
      obtain ⟨ap1, ap2, ap3⟩ := Oper.apart_spec hap
      have hj' := ready_mono hj hji
      obtain ⟨oj', kj, hoj', hrj, _⟩ := (H B0 hB0 w1 hw1).2.1 j hj' hjn
      rw [hoj] at hoj'
      cases hoj'
      rw [Env.only_env ki B0 ap1, Runs.put (hsel j oj · · hoj) ap1] at hrj
      refine ⟨oj, kj, hoj, hrj, fun Bj hBj => ?_⟩
      refine ih (listed.setIfInBounds j true) (kj.env oj Bj E) (a.put oj.dst (kj.res oj Bj)) (hcl0.set hj) (fun k ok hk hki hkun hno => ?_) (ready_mono hr (Ne.symm hji)) ?_ fun Bi hBi => ?_
      · refine hfree k ok hk hki ?_ hno
        by_cases hjk : j = k
        · subst hjk
          exact hjun
        · rwa [getD_set_ne true hjk] at hkun
      · rw [Env.only_env kj Bj ap3, Runs.put (hsel i oi · · hi) ap3]
        exact hy
      · -- from what is known behind 'i', at any world of the class
        have big : ∀ w', Cl w0 (ki.env oi Bi E) w' → AO P md ops Q w0 n g f ((listed.setIfInBounds i true).setIfInBounds j true) (kj.env oj Bj (ki.env oi Bi E)) ((a.put oi.dst (ki.res oi Bi)).put oj.dst (kj.res oj Bj)) := by
          intro w' hw'
          obtain ⟨oj', kj', hoj', hrj', hk'⟩ := (H Bi hBi w' hw').2.1 j hj' hjn
          rw [hoj] at hoj'
          cases hoj'
          rw [Env.only_env ki Bi ap1, Runs.put (hsel j oj · · hoj) ap1] at hrj'
          have hcl : Cl w0 (E.only ops oj) w' := by
            have := hw'.only (ops := ops) oj
            rwa [Env.only_env ki Bi ap1] at this
          have hkk : kj' = kj := Runs.det hrj' hrj hcl
          subst hkk
          exact hk' Bj hBj
        have conv : AO P md ops Q w0 n g f ((listed.setIfInBounds j true).setIfInBounds i true) (ki.env oi Bi (kj.env oj Bj E)) ((a.put oj.dst (kj.res oj Bj)).put oi.dst (ki.res oi Bi)) ↔
            AO P md ops Q w0 n g f ((listed.setIfInBounds i true).setIfInBounds j true) (kj.env oj Bj (ki.env oi Bi E)) ((a.put oi.dst (ki.res oi Bi)).put oj.dst (kj.res oj Bj)) := by
          rw [Kind.env_comm ki kj Bi Bj, Array.setIfInBounds_comm _ _ (fun e => hji e), ← Act.put_comm a _ _ ap2]
        rw [conv]
        -- the statement asks for every world of the class: take that world
        have sub : ∀ w', Cl w0 (kj.env oj Bj (ki.env oi Bi E)) w' → Cl w0 (ki.env oi Bi E) w' := fun w' hw' => hw'.sub fun s C u hs => Kind.env_le oj kj Bj s C u hs
        cases f with
        | zero => exact fun w' hw' => big w' (sub w' hw') w' hw'
        | succ f => exact fun w' hw' => big w' (sub w' hw') w' hw'

/-! ### The order of the text -/
/-- The first n operations in the order of the text (each may come up then, and nobody that is to come touches what it reads or writes), then the others in one forced order; those wait for every one of the first that asks something of the world. -/
def ordHead (md : Region.Mode) (ops : Array Oper) (g : Nat) : Nat → Nat → Array Bool → Bool
  | 0, k, listed => Region.seqB md ops g k listed && (Region.ready md ops listed).all fun j => decide (k ≤ j)
  | f + 1, k, listed => (Region.ready md ops listed).contains k && Region.free md ops listed k && ordHead md ops g f (k + 1) (listed.setIfInBounds k true)
def ordLate (md : Region.Mode) (ops : Array Oper) (n : Nat) : Bool :=
  (List.range n).all fun i => (match ops[i]? with | some oi => lateB oi | none => false) || (List.range ops.size).all fun t => decide (t < n) || waitsT md ops 5 t i
def ordB (md : Region.Mode) (ops : Array Oper) (n : Nat) : Bool :=
  Region.noSelect ops && decide (n ≤ ops.size) && ordLate md ops n && ordHead md ops (ops.size - n) n 0 (Array.replicate ops.size false)
theorem ordLate_spec {n : Nat} (h : ordLate md ops n = true) {i : Nat} (hi : i < n) {oi : Oper} (hoi : ops[i]? = some oi) (t : Nat) (ot : Oper) (ht : n ≤ t) (hot : ops[t]? = some ot) :
    (∃ f, waitsT md ops f t i = true) ∨ lateB oi = true := by
  have h1 := List.all_eq_true.1 h i (List.mem_range.2 hi)
  simp only [hoi, Bool.or_eq_true] at h1
  rcases h1 with h1 | h1
  · exact .inr h1
  · have h2 := List.all_eq_true.1 h1 t (List.mem_range.2 (Array.getElem?_eq_some_iff.1 hot).1)
    simp only [Bool.or_eq_true, decide_eq_true_eq] at h2
    rcases h2 with h2 | h2
    · omega
    · exact .inl ⟨5, h2⟩

def wpLex (P : Program) (ops : Array Oper) (Q : Exit → Act → World → Prop) (w0 : World) (tail : List Oper) : List Oper → Env → Act → Prop
  | [], E, a => ∀ x, Cl w0 E x → wpList P ops Q tail a x
  | o :: rest, E, a => (∃ x, Cl w0 E x) → ∃ k, Runs P ops w0 (E.only ops o) o a k ∧ ∀ B, w0.heap.size ≤ B → wpLex P ops Q w0 tail rest (k.env o B E) (a.put o.dst (k.res o B))

theorem AO.lex {n g : Nat} {tail : List Oper} (hsel : Region.noSelect ops = true) (hQ : ∀ c a d v w, Q (.panic c) (a.put d v) w → Q (.panic c) a w) (hl : ordLate md ops n = true) (htail : ∀ j, tail[j]? = ops[n + j]?) (hg : tail.length = g) :
    ∀ (l : List Oper) (k : Nat) (listed : Array Bool) (E : Env) (a : Act), Closed md ops listed → (∀ j, j < l.length → l[j]? = ops[k + j]?) → k + l.length = n → ordHead md ops g l.length k listed = true →
    wpLex P ops Q w0 tail l E a → AO P md ops Q w0 n g l.length listed E a
  | [], k, listed, E, a, _, _, hk, hB, h => by
    have hkn : k = n := by simpa using hk
    subst hkn
    simp only [List.length_nil, ordHead, Bool.and_eq_true] at hB
    refine fun w hw => ⟨fun j hj => by simpa using List.all_eq_true.1 hB.2 j hj, ?_⟩
    subst hg
    exact wpAny_of_seq tail k listed a w htail hB.1 (h w hw)
  | o :: l, k, listed, E, a, hcl, hll, hk, hB, h => by
    simp only [List.length_cons] at hk
    simp only [List.length_cons, ordHead, Bool.and_eq_true] at hB
    have h0 : ops[k]? = some o := by simpa using (hll 0 (by simp)).symm
    by_cases hne : ∃ x, Cl w0 E x
    · obtain ⟨kd, hr, hrest⟩ := h hne
      refine AO.first h0 (by omega) (Region.noSelect_spec hsel) (fun c a v w => hQ c a o.dst v w) (fun t ot ht hot => ordLate_spec hl (by omega) h0 t ot ht hot) l.length listed E a hcl (Region.free_spec h0 hB.1.2) (by simpa using hB.1.1) hr fun B hBB => ?_
      exact AO.lex hsel hQ hl htail hg l (k + 1) _ _ _ (hcl.set (by simpa using hB.1.1)) (fun j hj => by have := hll (j + 1) (by simp; omega); simpa [Nat.add_assoc, Nat.add_comm 1 j] using this) (by omega) hB.2 (hrest B hBB)
    · exact fun w hw => absurd ⟨w, hw⟩ hne

theorem wp_region_ord {id : Nat} {a : Act} {w : World} {l : List Oper} (n : Nat) (hm : P.follows .mixedOrders = true) (hB : ordB .any l.toArray n = true)
    (hQ : ∀ c a d v w, Q (.panic c) (a.put d v) w → Q (.panic c) a w)
    (h : wpLex P l.toArray Q w.drew (l.drop n) (l.take n) Env.none a) : (Code.region id l.toArray true).wp P Q a w := by
  simp only [ordB, Bool.and_eq_true, decide_eq_true_eq] at hB
  obtain ⟨⟨⟨hsel, hn⟩, hl⟩, hh⟩ := hB
  have hn' : n ≤ l.length := by simpa using hn
  have htl : (l.take n).length = n := by simp; omega
  have hdl : (l.drop n).length = l.toArray.size - n := by simp
  have H := AO.lex (md := .any) (g := l.toArray.size - n) hsel hQ hl (fun j => by simp [List.getElem?_drop]) hdl (l.take n) 0 _ Env.none a (Closed.none _) (fun j hj => by
    have hj' : j < n := by rw [htl] at hj; exact hj
    simp [hj']) (by simpa using htl) (by rw [htl]; exact hh) h
  refine wp_region_any hm ?_
  have := AO.any _ _ _ _ w.drew H ⟨Below.refl _ _, fun s B o e => e.elim⟩
  rw [htl, show n + (l.toArray.size - n) = l.toArray.size by omega] at this
  exact this

/-! ### The moves of a walk -/
variable {tail rest : List Oper} {o : Oper} {a : Act}
/-- What stays so when memory grows. -/
def GrowsUp (R : World → Prop) : Prop := ∀ x y, R x → Below x.heap.size x y → R y
def GrE (w0 : World) (F : Env) (R : World → Prop) : Type := { x : World // Cl w0 F x ∧ R x }
@[go_sem] theorem GrE.cell {R : World → Prop} (g : GrE w0 F R) (b o : Nat) (h : b < w0.heap.size) : g.1.cell? ⟨b, o, none⟩ = w0.cell? ⟨b, o, none⟩ := g.2.1.below.cell (p := ⟨b, o, none⟩) h
@[go_sem] theorem GrE.frozen {R : World → Prop} (g : GrE w0 F R) (b o : Nat) (h : b < w0.heap.size) : g.1.frozen? ⟨b, o, none⟩ = w0.frozen? ⟨b, o, none⟩ := g.2.1.below.frozen (p := ⟨b, o, none⟩) h
theorem GrE.blk {R : World → Prop} (g : GrE w0 F R) {s B : Nat} {o : Obj} (h : F s B o) : g.1.heap[B]? = some o := (g.2.1.fact s B o h).2
theorem GrE.below {R : World → Prop} (g : GrE w0 F R) : Below w0.heap.size w0 g.1 := g.2.1.below
theorem GrE.call {R : World → Prop} (hR : GrowsUp R) {f : FuncId} {args : Array Value} {g : GrE w0 F R} {v : Value} (h : Calls P f args g.1 fun e w' => e = .returned v ∧ Below g.1.heap.size g.1 w') :
    Calls P f args g.1 fun e w' => e = .returned v ∧ ∃ k : GrE w0 F R, w' = k.1 :=
  h.mono fun _ w' ⟨he, hb⟩ => ⟨he, ⟨w', g.2.1.grow hb, hR _ _ g.2.2 hb⟩, rfl⟩
theorem GrE.same {R : World → Prop} {f : FuncId} {args : Array Value} {g : GrE w0 F R} {v : Value} (h : Calls P f args g.1 fun e w' => e = .returned v ∧ g.1 = w') :
    Calls P f args g.1 fun e w' => e = .returned v ∧ ∃ k : GrE w0 F R, w' = k.1 :=
  h.mono fun _ _ ⟨he, hb⟩ => ⟨he, g, hb.symm⟩

theorem quietUpon_mono {C D : World → Prop} {v : Value} {r : Result Next} (hCD : ∀ y, C y → D y) (h : Oper.quietUpon P C x v r) : Oper.quietUpon P D x v r := by
  cases r with
  | ok n w' =>
    cases n <;> simp only [Oper.quietUpon] at h ⊢
    case value => exact h
    case skip => exact h
    case enter f args => exact ⟨h.1, h.2.mono fun _ _ hh => ⟨hh.1, hCD _ hh.2⟩⟩
  | halt => simp only [Oper.quietUpon] at h

theorem wpLex_nil (h : ∀ x, Cl w0 E x → wpList P ops Q tail a x) : wpLex P ops Q w0 tail [] E a := h
theorem wpLex_skip (hw : Region.wanted o (yielded ops a.tmps) = false) (h : wpLex P ops Q w0 tail rest E (a.put o.dst undef)) : wpLex P ops Q w0 tail (o :: rest) E a :=
  fun _ => ⟨.inl undef, .inr ⟨hw, rfl⟩, fun _ _ => h⟩
theorem wpLex_fix (hw : Region.wanted o (yielded ops a.tmps) = true)
    (h : ∀ F : Env, Hid (∀ s B u, (o.looksAt ops).contains s = true → E s B u → F s B u) → ∀ R, GrowsUp R → Nonempty (GrE w0 F R) → ∀ K : Act → Prop, (∀ a', wpLex P ops Q w0 tail rest E a' → K a') → o.quiet P a (fun x => ∃ g : GrE w0 F R, x = g.1) K) :
    wpLex P ops Q w0 tail (o :: rest) E a := by
  rintro ⟨x0, hx0⟩
  replace h := h (E.only ops o) (fun s B u h1 h2 => ⟨h1, h2⟩)
  obtain ⟨v, hv, hk⟩ := h (fun _ => True) (fun _ _ _ _ => trivial) ⟨⟨x0, hx0.only o, trivial⟩⟩ (wpLex P ops Q w0 tail rest E) (fun _ h => h)
  refine ⟨.inl v, .inl ⟨hw, fun x hx => ?_⟩, fun _ _ => hk⟩
  have h1 := hv x ⟨⟨x, hx, trivial⟩, rfl⟩
  obtain ⟨u, hu, _⟩ := h (fun y => Below x.heap.size x y) (fun y z hy hz => hy.trans (hz.mono hy.size)) ⟨⟨x, hx, Below.refl _ _⟩⟩ (fun _ => True) (fun _ _ => trivial)
  have h2 := hu x ⟨⟨x, hx, Below.refl _ _⟩, rfl⟩
  have : v = u := quietUpon_det h1 h2
  subst this
  exact quietUpon_mono (fun y ⟨g, hg⟩ => hg ▸ g.2.2) h2
theorem wpLex_blk (hw : Region.wanted o (yielded ops a.tmps) = true) (obj : Obj) (hrun : ∀ x, Cl w0 (E.only ops o) x → (execOp a.eval o).run P x = .ok (.value (blkVal o x.heap.size)) (x.alloc obj))
    (h : ∀ B, w0.heap.size ≤ B → wpLex P ops Q w0 tail rest (E.upd o.dst B obj) (a.put o.dst (blkVal o B))) : wpLex P ops Q w0 tail (o :: rest) E a :=
  fun _ => ⟨.inr obj, ⟨hw, hrun⟩, h⟩
theorem blk_facts {w : World} {B : Nat} {cs : Array Value} {t : TypeId} (h : w.heap[B]? = some (.cells cs t (0, 0))) : (∀ j, w.cell? ⟨B, j, none⟩ = cs[j]?) ∧ (∀ j, w.frozen? ⟨B, j, none⟩ = false) :=
  ⟨fun j => cell_of_row w B j cs t (0, 0) h, fun j => by simp [World.frozen?, h]⟩
end
end Go.Proofs.Ytjbbhfloomejoaa
