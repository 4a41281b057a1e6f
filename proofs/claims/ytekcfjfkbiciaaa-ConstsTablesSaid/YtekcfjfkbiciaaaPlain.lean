/- Values of a pool, what they need, and their order: plain law, no program. -/
import Derived.Lib.SlicesCompact
namespace Go.Proofs.Ytekcfjfkbiciaaa

/-! ### Orders -/
structure Lin {α : Type} (lt : α → α → Prop) : Prop where
  irrefl : ∀ a, ¬ lt a a
  trans : ∀ a b c, lt a b → lt b c → lt a c
  tri : ∀ a b, lt a b ∨ a = b ∨ lt b a
theorem Lin.ne {α : Type} {lt : α → α → Prop} (L : Lin lt) {a b : α} (h : lt a b) : a ≠ b := fun e => L.irrefl b (e ▸ h)
theorem Lin.asymm {α : Type} {lt : α → α → Prop} (L : Lin lt) {a b : α} (h : lt a b) : ¬ lt b a := fun h2 => L.irrefl a (L.trans _ _ _ h h2)
def lexL {α β : Type} (l1 : α → α → Prop) (l2 : β → β → Prop) (p q : α × β) : Prop := l1 p.1 q.1 ∨ (p.1 = q.1 ∧ l2 p.2 q.2)
theorem lexL_lin {α β : Type} {l1 : α → α → Prop} {l2 : β → β → Prop} (A : Lin l1) (B : Lin l2) : Lin (lexL l1 l2) where
  irrefl a h := by
    rcases h with h | ⟨_, h⟩
    · exact A.irrefl _ h
    · exact B.irrefl _ h
  trans a b c h1 h2 := by
    rcases h1 with h1 | ⟨e1, h1⟩
    · rcases h2 with h2 | ⟨e2, _⟩
      · exact .inl (A.trans _ _ _ h1 h2)
      · exact .inl (e2 ▸ h1)
    · rcases h2 with h2 | ⟨e2, h2⟩
      · exact .inl (e1 ▸ h2)
      · exact .inr ⟨e1.trans e2, B.trans _ _ _ h1 h2⟩
  tri a b := by
    rcases A.tri a.1 b.1 with h | h | h
    · exact .inl (.inl h)
    · rcases B.tri a.2 b.2 with h' | h' | h'
      · exact .inl (.inr ⟨h, h'⟩)
      · exact .inr (.inl (Prod.ext h h'))
      · exact .inr (.inr (.inr ⟨h.symm, h'⟩))
    · exact .inr (.inr (.inl h))
theorem intL : Lin (fun a b : Int => a < b) := ⟨fun a h => by omega, fun a b c h1 h2 => by omega, fun a b => by omega⟩
theorem natL : Lin (fun a b : Nat => a < b) := ⟨fun a h => by omega, fun a b c h1 h2 => by omega, fun a b => by omega⟩
theorem txtL : Lin (fun a b : List UInt8 => a < b) where
  irrefl a := List.not_lt.2 (List.le_refl a)
  trans a b c h1 h2 := List.lt_trans h1 h2
  tri a b := by
    by_cases h1 : a < b
    · exact .inl h1
    · by_cases h2 : b < a
      · exact .inr (.inr h2)
      · exact .inr (.inl (List.le_antisymm (List.not_lt.1 h2) (List.not_lt.1 h1)))

/-! ### Values -/
structure Pv where
  tag : Int
  text : List UInt8
  bits : Nat
  cls : List UInt8
  name : List UInt8
  desc : List UInt8
def Pv.key (v : Pv) : Int × List UInt8 × Nat × List UInt8 × List UInt8 × List UInt8 := (v.tag, v.text, v.bits, v.cls, v.name, v.desc)
theorem Pv.key_inj {a b : Pv} (h : a.key = b.key) : a = b := by
  cases a; cases b
  simp only [Pv.key, Prod.mk.injEq] at h
  obtain ⟨rfl, rfl, rfl, rfl, rfl, rfl⟩ := h
  rfl
instance : DecidableEq Pv := fun a b => if h : a.key = b.key then isTrue (Pv.key_inj h) else isFalse (fun e => h (e ▸ rfl))
def Pv.zero : Pv := ⟨0, [], 0, [], [], []⟩
def Pv.ofText (s : List UInt8) : Pv := ⟨1, s, 0, [], [], []⟩
def Pv.ofCls (s : List UInt8) : Pv := ⟨7, s, 0, [], [], []⟩
def Pv.ofPair (n d : List UInt8) : Pv := ⟨12, [], 0, [], n, d⟩
def Pv.wide (v : Pv) : Bool := v.tag == 5 || v.tag == 6
def Pv.needs (v : Pv) : List Pv :=
  if v.tag = 7 ∨ v.tag = 8 then [Pv.ofText v.text]
  else if v.tag = 12 then [Pv.ofText v.name, Pv.ofText v.desc]
  else if v.tag = 9 ∨ v.tag = 10 ∨ v.tag = 11 then [Pv.ofCls v.cls, Pv.ofPair v.name v.desc]
  else []
def Pv.lt (a b : Pv) : Prop := lexL (fun a b : Int => a < b) (lexL (fun a b : List UInt8 => a < b) (lexL (fun a b : Nat => a < b) (lexL (fun a b : List UInt8 => a < b) (lexL (fun a b : List UInt8 => a < b) (fun a b : List UInt8 => a < b))))) a.key b.key
theorem Pv.lin : Lin Pv.lt := by
  have L := lexL_lin intL (lexL_lin txtL (lexL_lin natL (lexL_lin txtL (lexL_lin txtL txtL))))
  exact ⟨fun a => L.irrefl _, fun a b c => L.trans _ _ _, fun a b => (L.tri a.key b.key).imp_right (Or.imp_left Pv.key_inj)⟩
noncomputable instance : DecidableRel Pv.lt := fun _ _ => Classical.propDecidable _

/-! ### What is wrong with a value: 0: nothing -/
def Pv.chk (ok kind range : Int) (v : Pv) : Int :=
  if v.tag = 1 ∨ v.tag = 7 ∨ v.tag = 8 then (if v.bits = 0 ∧ v.cls = [] ∧ v.name = [] ∧ v.desc = [] then ok else kind)
  else if v.tag = 3 ∨ v.tag = 4 ∨ v.tag = 5 ∨ v.tag = 6 then (if v.text = [] ∧ v.cls = [] ∧ v.name = [] ∧ v.desc = [] then (if (v.tag = 3 ∨ v.tag = 4) ∧ 4294967296 ≤ v.bits then range else ok) else kind)
  else if v.tag = 12 then (if v.text = [] ∧ v.bits = 0 ∧ v.cls = [] then ok else kind)
  else if v.tag = 9 ∨ v.tag = 10 ∨ v.tag = 11 then (if v.text = [] ∧ v.bits = 0 then ok else kind)
  else kind

/-! ### Rows in order, each once -/
section
variable {α : Type} [DecidableEq α] {lt : α → α → Prop} [DecidableRel lt]
def putO (lt : α → α → Prop) [DecidableRel lt] (l : List α) (v : α) : List α :=
  if v ∈ l then l else l.takeWhile (fun x => decide (lt x v)) ++ v :: l.dropWhile (fun x => decide (lt x v))
theorem putO_mem (l : List α) (v x : α) : x ∈ putO lt l v ↔ x ∈ l ∨ x = v := by
  unfold putO
  split
  · rename_i h
    constructor
    · exact .inl
    · rintro (h1 | rfl)
      · exact h1
      · exact h
  · have : x ∈ l ↔ x ∈ l.takeWhile (fun x => decide (lt x v)) ∨ x ∈ l.dropWhile (fun x => decide (lt x v)) := by
      rw [← List.mem_append, List.takeWhile_append_dropWhile]
    rw [this, List.mem_append, List.mem_cons]
    constructor
    · rintro (h | rfl | h)
      · exact .inl (.inl h)
      · exact .inr rfl
      · exact .inl (.inr h)
    · rintro ((h | h) | rfl)
      · exact .inl h
      · exact .inr (.inr h)
      · exact .inr (.inl rfl)
omit [DecidableEq α] in
theorem drop_above (L : Lin lt) {v : α} : ∀ {l : List α}, l.Pairwise lt → v ∉ l → ∀ x ∈ l.dropWhile (fun x => decide (lt x v)), lt v x
  | [], _, _, x, h => by simp at h
  | y :: l, hp, hv, x, h => by
    rw [List.dropWhile_cons] at h
    by_cases hy : lt y v
    · rw [if_pos (by simpa using hy)] at h
      exact drop_above L (List.pairwise_cons.1 hp).2 (fun e => hv (List.mem_cons_of_mem _ e)) x h
    · rw [if_neg (by simpa using hy)] at h
      have hvy : lt v y := by
        rcases L.tri y v with h1 | h1 | h1
        · exact absurd h1 hy
        · exact absurd (h1 ▸ List.mem_cons_self ..) hv
        · exact h1
      rcases List.mem_cons.1 h with rfl | h
      · exact hvy
      · exact L.trans _ _ _ hvy ((List.pairwise_cons.1 hp).1 x h)
omit [DecidableEq α] in
theorem mem_takeWhile_sat {p : α → Bool} : ∀ {l : List α} {x : α}, x ∈ l.takeWhile p → p x = true
  | [], _, h => by simp at h
  | y :: l, x, h => by
    rw [List.takeWhile_cons] at h
    split at h
    · rcases List.mem_cons.1 h with rfl | h
      · assumption
      · exact mem_takeWhile_sat h
    · simp at h
theorem putO_rises (L : Lin lt) {l : List α} (h : l.Pairwise lt) (v : α) : (putO lt l v).Pairwise lt := by
  unfold putO
  split
  · exact h
  · rename_i hv
    have hd := drop_above L h hv
    have ht : ∀ x ∈ l.takeWhile (fun x => decide (lt x v)), lt x v := fun x hx => by simpa using mem_takeWhile_sat hx
    have hp : (l.takeWhile (fun x => decide (lt x v)) ++ l.dropWhile (fun x => decide (lt x v))).Pairwise lt := by rw [List.takeWhile_append_dropWhile]; exact h
    obtain ⟨p1, p2, p3⟩ := List.pairwise_append.1 hp
    refine List.pairwise_append.2 ⟨p1, List.pairwise_cons.2 ⟨hd, p2⟩, fun a ha b hb => ?_⟩
    rcases List.mem_cons.1 hb with rfl | hb
    · exact ht a ha
    · exact p3 a ha b hb
def sd (lt : α → α → Prop) [DecidableRel lt] (l : List α) : List α := l.foldl (putO lt) []
theorem sd_aux (L : Lin lt) : ∀ (l acc : List α), acc.Pairwise lt → (l.foldl (putO lt) acc).Pairwise lt ∧ ∀ x, x ∈ l.foldl (putO lt) acc ↔ x ∈ acc ∨ x ∈ l
  | [], acc, h => ⟨h, fun x => by simp⟩
  | v :: l, acc, h => by
    obtain ⟨h1, h2⟩ := sd_aux L l (putO lt acc v) (putO_rises L h v)
    refine ⟨h1, fun x => ?_⟩
    rw [List.foldl_cons, h2, putO_mem, List.mem_cons]
    constructor
    · rintro ((h | h) | h)
      · exact .inl h
      · exact .inr (.inl h)
      · exact .inr (.inr h)
    · rintro (h | h | h)
      · exact .inl (.inl h)
      · exact .inl (.inr h)
      · exact .inr h
theorem sd_rises (L : Lin lt) (l : List α) : (sd lt l).Pairwise lt := (sd_aux L l [] List.Pairwise.nil).1
theorem sd_mem (L : Lin lt) (l : List α) (x : α) : x ∈ sd lt l ↔ x ∈ l := ((sd_aux L l [] List.Pairwise.nil).2 x).trans (by simp)
omit [DecidableRel lt] in
omit [DecidableEq α] in
theorem rises_uniq (L : Lin lt) : ∀ {a b : List α}, a.Pairwise lt → b.Pairwise lt → (∀ x, x ∈ a ↔ x ∈ b) → a = b
  | [], b, _, _, h => by
    cases b with
    | nil => rfl
    | cons y b => exact absurd ((h y).2 (List.mem_cons_self ..)) (by simp)
  | x :: a, [], _, _, h => absurd ((h x).1 (List.mem_cons_self ..)) (by simp)
  | x :: a, y :: b, ha, hb, h => by
    obtain ⟨a1, a2⟩ := List.pairwise_cons.1 ha
    obtain ⟨b1, b2⟩ := List.pairwise_cons.1 hb
    have e : x = y := by
      rcases List.mem_cons.1 ((h x).1 (List.mem_cons_self ..)) with e | hx
      · exact e
      · rcases List.mem_cons.1 ((h y).2 (List.mem_cons_self ..)) with e | hy
        · exact e.symm
        · exact absurd (b1 x hx) (L.asymm (a1 y hy))
    subst e
    rw [rises_uniq L a2 b2 fun z => ?_]
    constructor
    · intro hz
      rcases List.mem_cons.1 ((h z).1 (List.mem_cons_of_mem _ hz)) with rfl | h'
      · exact absurd (a1 _ hz) (L.irrefl _)
      · exact h'
    · intro hz
      rcases List.mem_cons.1 ((h z).2 (List.mem_cons_of_mem _ hz)) with rfl | h'
      · exact absurd (b1 _ hz) (L.irrefl _)
      · exact h'
omit [DecidableRel lt] in
omit [DecidableEq α] in
theorem rises_nodup (L : Lin lt) {l : List α} (h : l.Pairwise lt) : l.Nodup := h.imp fun h => L.ne h
end

/-! ### All that is needed -/
def Pv.cl (v : Pv) : List Pv := v :: (v.needs ++ v.needs.flatMap Pv.needs)
def clAll (l : List Pv) : List Pv := l.flatMap Pv.cl
theorem Pv.needs_text (s : List UInt8) : (Pv.ofText s).needs = [] := by simp [Pv.needs, Pv.ofText]
theorem Pv.needs_cls (s : List UInt8) : (Pv.ofCls s).needs = [Pv.ofText s] := by simp [Pv.needs, Pv.ofCls]
theorem Pv.needs_pair (n d : List UInt8) : (Pv.ofPair n d).needs = [Pv.ofText n, Pv.ofText d] := by simp [Pv.needs, Pv.ofPair]
theorem Pv.needs3 (v a b : Pv) (h1 : a ∈ v.needs) (h2 : b ∈ a.needs) : b.needs = [] := by
  unfold Pv.needs at h1
  split at h1
  · simp only [List.mem_singleton] at h1
    subst h1
    simp [Pv.needs_text] at h2
  · split at h1
    · simp only [List.mem_cons, List.not_mem_nil, or_false] at h1
      rcases h1 with rfl | rfl <;> simp [Pv.needs_text] at h2
    · split at h1
      · simp only [List.mem_cons, List.not_mem_nil, or_false] at h1
        rcases h1 with rfl | rfl
        · rw [Pv.needs_cls] at h2
          simp only [List.mem_singleton] at h2
          subst h2
          exact Pv.needs_text _
        · rw [Pv.needs_pair] at h2
          simp only [List.mem_cons, List.not_mem_nil, or_false] at h2
          rcases h2 with rfl | rfl <;> exact Pv.needs_text _
      · simp at h1
theorem mem_cl {v x : Pv} : x ∈ v.cl ↔ x = v ∨ x ∈ v.needs ∨ ∃ y ∈ v.needs, x ∈ y.needs := by
  simp [Pv.cl]
theorem cl_closed {v x y : Pv} (hx : x ∈ v.cl) (hy : y ∈ x.needs) : y ∈ v.cl := by
  rw [mem_cl] at hx ⊢
  rcases hx with rfl | h | ⟨z, h1, h2⟩
  · exact .inr (.inl hy)
  · exact .inr (.inr ⟨x, h, hy⟩)
  · rw [Pv.needs3 _ _ _ h1 h2] at hy
    simp at hy
theorem clAll_closed {l : List Pv} {x y : Pv} (hx : x ∈ clAll l) (hy : y ∈ x.needs) : y ∈ clAll l := by
  obtain ⟨v, hv, h⟩ := List.mem_flatMap.1 hx
  exact List.mem_flatMap.2 ⟨v, hv, cl_closed h hy⟩
theorem clAll_has {l : List Pv} {x : Pv} (hx : x ∈ l) : x ∈ clAll l := List.mem_flatMap.2 ⟨x, hx, by simp [Pv.cl]⟩
/-- The least set that has these and what its values need. -/
theorem clAll_least {l : List Pv} {S : Pv → Prop} (h0 : ∀ x ∈ l, S x) (hs : ∀ x, S x → ∀ y ∈ x.needs, S y) {x : Pv} (hx : x ∈ clAll l) : S x := by
  obtain ⟨v, hv, h⟩ := List.mem_flatMap.1 hx
  rw [mem_cl] at h
  rcases h with rfl | h | ⟨z, h1, h2⟩
  · exact h0 _ hv
  · exact hs _ (h0 _ hv) _ h
  · exact hs _ (hs _ (h0 _ hv) _ h1) _ h2
/-- How many steps a value takes. -/
def Pv.wt (v : Pv) : Nat := v.cl.length
theorem Pv.wt_needs (v : Pv) : (v.needs.map Pv.wt).sum < v.wt := by
  have h : ∀ l : List Pv, (∀ a ∈ l, ∀ b ∈ a.needs, b.needs = []) → (l.map Pv.wt).sum = l.length + (l.flatMap Pv.needs).length := fun l => by
    induction l with
    | nil => intro _; rfl
    | cons a l ih =>
      intro h
      have e : a.needs.flatMap Pv.needs = [] := List.flatMap_eq_nil_iff.2 (h a (List.mem_cons_self ..))
      rw [List.map_cons, List.sum_cons, ih fun a ha => h a (List.mem_cons_of_mem _ ha)]
      simp only [Pv.wt, Pv.cl, e, List.append_nil, List.length_cons, List.flatMap_cons, List.length_append]
      omega
  rw [h _ fun a ha b hb => Pv.needs3 v a b ha hb]
  simp only [Pv.wt, Pv.cl, List.length_cons, List.length_append]
  omega
theorem Pv.needs_len (v : Pv) : v.needs.length ≤ 2 := by
  unfold Pv.needs
  split
  · simp
  · split
    · simp
    · split <;> simp
theorem Pv.wt_le (v : Pv) : v.wt ≤ 7 := by
  unfold Pv.wt Pv.cl
  have h1 := v.needs_len
  have h2 : (v.needs.flatMap Pv.needs).length ≤ v.needs.length * 2 := by
    generalize v.needs = l
    induction l with
    | nil => simp
    | cons a l ih =>
      have := a.needs_len
      simp only [List.flatMap_cons, List.length_append, List.length_cons]
      omega
  simp only [List.length_cons, List.length_append]
  omega
/-! ### The pool -/
def Pv.room (v : Pv) : Nat := if v.wide then 2 else 1
def Pv.slot (v : Pv) : List Pv := if v.wide then [v, v] else [v]
def Pv.slots (l : List Pv) : List Pv := Pv.zero :: l.flatMap Pv.slot
noncomputable def Pv.rest (low all : List Pv) : List Pv := sd Pv.lt ((clAll (low ++ all)).filter fun x => decide (x ∉ low))
noncomputable def Pv.ord (low all : List Pv) : List Pv := sd Pv.lt low ++ Pv.rest low all
theorem Pv.rest_mem (low all : List Pv) (x : Pv) : x ∈ Pv.rest low all ↔ x ∈ clAll (low ++ all) ∧ x ∉ low := by
  unfold Pv.rest
  rw [sd_mem Pv.lin, List.mem_filter]
  simp
theorem Pv.ord_mem (low all : List Pv) (x : Pv) : x ∈ Pv.ord low all ↔ x ∈ clAll (low ++ all) := by
  unfold Pv.ord
  rw [List.mem_append, sd_mem Pv.lin, Pv.rest_mem]
  constructor
  · rintro (h | h)
    · exact clAll_has (by simp [h])
    · exact h.1
  · intro h
    by_cases hx : x ∈ low
    · exact .inl hx
    · exact .inr ⟨h, hx⟩
theorem Pv.ord_nodup (low all : List Pv) : (Pv.ord low all).Nodup := by
  unfold Pv.ord
  refine List.nodup_append.2 ⟨rises_nodup Pv.lin (sd_rises Pv.lin _), rises_nodup Pv.lin (sd_rises Pv.lin _), fun a ha b hb e => ?_⟩
  subst e
  exact ((Pv.rest_mem _ _ _).1 hb).2 ((sd_mem Pv.lin _ _).1 ha)
/-- What is told of a value's number, from number n on. -/
def Pv.numFrom : Nat → List Pv → Pv → Nat
  | _, [], _ => 0
  | n, x :: xs, v => if x = v then n else Pv.numFrom (n + x.room) xs v
def Pv.num (l : List Pv) (v : Pv) : Nat := Pv.numFrom 1 l v
def Pv.fst : Nat → List Pv → Pv → Nat
  | _, [], _ => 0
  | n, x :: xs, v => if x = v then n else Pv.fst (n + 1) xs v
theorem Pv.fst_slots (v : Pv) : ∀ (l : List Pv) (n : Nat), Pv.fst n (l.flatMap Pv.slot) v = Pv.numFrom n l v
  | [], _ => rfl
  | x :: l, n => by
    have ih := Pv.fst_slots v l
    rw [List.flatMap_cons]
    unfold Pv.slot Pv.numFrom Pv.room
    split
    · simp only [List.cons_append, List.nil_append, Pv.fst]
      split
      · rfl
      · rw [Nat.add_assoc]; exact ih _
    · simp only [List.cons_append, List.nil_append, Pv.fst]
      split
      · rfl
      · exact ih _
theorem Pv.slot_len (v : Pv) : v.slot.length = v.room := by unfold Pv.slot Pv.room; split <;> rfl
theorem Pv.slots_len (l : List Pv) : (Pv.slots l).length = 1 + (l.map Pv.room).sum := by
  unfold Pv.slots
  rw [List.length_cons, List.length_flatMap, Nat.add_comm]
  refine congrArg (fun l => 1 + List.sum l) (List.map_congr_left fun v _ => Pv.slot_len v)
theorem Pv.numFrom_none {v : Pv} : ∀ {l : List Pv} {n : Nat}, v ∉ l → Pv.numFrom n l v = 0
  | [], _, _ => rfl
  | x :: l, n, h => by
    unfold Pv.numFrom
    rw [if_neg (fun e : x = v => h (e ▸ List.mem_cons_self ..))]
    exact Pv.numFrom_none fun e => h (List.mem_cons_of_mem _ e)
theorem Pv.numFrom_app (v : Pv) : ∀ (a b : List Pv) (n : Nat), Pv.numFrom n (a ++ b) v = if v ∈ a then Pv.numFrom n a v else Pv.numFrom (n + (a.map Pv.room).sum) b v
  | [], b, n => by simp
  | x :: a, b, n => by
    have ih := Pv.numFrom_app v a b (n + x.room)
    rw [List.cons_append]
    by_cases h : x = v
    · subst h
      simp [Pv.numFrom]
    · have e : (v ∈ x :: a) ↔ v ∈ a := by simp [Ne.symm h]
      have e1 : Pv.numFrom n (x :: (a ++ b)) v = Pv.numFrom (n + x.room) (a ++ b) v := by rw [Pv.numFrom, if_neg h]
      have e2 : Pv.numFrom n (x :: a) v = Pv.numFrom (n + x.room) a v := by rw [Pv.numFrom, if_neg h]
      rw [e1, e2, ih]
      simp only [e, List.map_cons, List.sum_cons, Nat.add_assoc]

/-! ### Constants -/
structure Rw where
  tag : Int
  text : List UInt8
  bits : Nat
  a : Nat
  b : Nat
def Rw.zero : Rw := ⟨0, [], 0, 0, 0⟩
def Pv.rawOf (nm : Pv → Nat) (v : Pv) : Rw :=
  match v.needs with
  | [] => ⟨v.tag, v.text, v.bits, 0, 0⟩
  | [x] => ⟨v.tag, [], v.bits, nm x, 0⟩
  | x :: y :: _ => ⟨v.tag, [], v.bits, nm x, nm y⟩
def Pv.raw1 (nm : Pv → Nat) (v : Pv) : List Rw := if v.wide then [v.rawOf nm, Rw.zero] else [v.rawOf nm]
def Pv.raws (l : List Pv) : List Rw := Rw.zero :: l.flatMap (Pv.raw1 (Pv.num l))
/-- The document's. -/
def Pv.rawRef (nm : Pv → Nat) (v : Pv) : Rw := ⟨v.tag, if v.tag = 1 then v.text else [], v.bits, (v.needs[0]?.map nm).getD 0, (v.needs[1]?.map nm).getD 0⟩
def Pv.rawGo (nm : Pv → Nat) : Pv → Bool → Bool → List Pv → List Rw
  | _, _, _, [] => []
  | p, first, half, v :: vs =>
    (if (!first && v.wide && decide (v = p) && !half) = true then Rw.zero else v.rawRef nm) :: Pv.rawGo nm v false (!first && v.wide && decide (v = p) && !half) vs
theorem Pv.raw_same {ok kind range : Int} (hk : ok ≠ kind) (hr : ok ≠ range) {v : Pv} (h : v.chk ok kind range = ok) (nm : Pv → Nat) : v.rawRef nm = v.rawOf nm := by
  unfold Pv.chk at h
  unfold Pv.rawRef Pv.rawOf Pv.needs
  split at h
  · rename_i h1
    rcases h1 with h1 | h1 | h1 <;> simp [h1]
  · split at h
    · rename_i h1
      split at h
      · rename_i h2
        rcases h1 with h1 | h1 | h1 | h1 <;> simp [h1, h2]
      · exact absurd h.symm hk
    · split at h
      · rename_i h1
        simp [h1]
      · split at h
        · rename_i h1
          rcases h1 with h1 | h1 | h1 <;> simp [h1]
        · exact absurd h.symm hk
theorem Pv.rawGo_same (nm : Pv → Nat) : ∀ (l : List Pv), l.Nodup → (∀ v ∈ l, v.rawRef nm = v.rawOf nm) → ∀ (p : Pv) (first half : Bool), first = true ∨ p ∉ l → Pv.rawGo nm p first half (l.flatMap Pv.slot) = l.flatMap (Pv.raw1 nm)
  | [], _, _, _, _, _, _ => rfl
  | v :: l, hn, hs, p, first, half, hp => by
    obtain ⟨n1, n2⟩ := List.nodup_cons.1 hn
    have e1 : (!first && v.wide && decide (v = p) && !half) = false := by
      rcases hp with rfl | hp
      · rfl
      · have : v ≠ p := fun e => hp (e ▸ List.mem_cons_self ..)
        simp [this]
    have ih := Pv.rawGo_same nm l n2 (fun x hx => hs x (List.mem_cons_of_mem _ hx)) v false
    rw [List.flatMap_cons, List.flatMap_cons]
    unfold Pv.slot Pv.raw1
    cases hw : v.wide
    · simp only [Bool.false_eq_true, if_false, List.cons_append, List.nil_append]
      unfold Pv.rawGo
      rw [e1]
      simp only [Bool.false_eq_true, if_false]
      rw [hs v (List.mem_cons_self ..)]
      exact congrArg _ (ih false (.inr n1))
    · simp only [if_true, List.cons_append, List.nil_append]
      unfold Pv.rawGo
      rw [e1]
      simp only [Bool.false_eq_true, if_false]
      rw [hs v (List.mem_cons_self ..)]
      refine congrArg _ ?_
      unfold Pv.rawGo
      rw [hw]
      simp only [Bool.not_false, Bool.true_and, Bool.and_true, decide_true, if_true]
      exact congrArg _ (ih true (.inr n1))
/-- The needs of a value that may be may be. -/
theorem Pv.chk_needs {ok kind range : Int} {v x : Pv} (hx : x ∈ v.needs) : x.chk ok kind range = ok := by
  unfold Pv.needs at hx
  split at hx
  · simp only [List.mem_singleton] at hx
    subst hx
    simp [Pv.chk, Pv.ofText]
  · split at hx
    · simp only [List.mem_cons, List.not_mem_nil, or_false] at hx
      rcases hx with rfl | rfl <;> simp [Pv.chk, Pv.ofText]
    · split at hx
      · simp only [List.mem_cons, List.not_mem_nil, or_false] at hx
        rcases hx with rfl | rfl <;> simp [Pv.chk, Pv.ofCls, Pv.ofPair]
      · simp at hx
theorem Pv.chk_cl {ok kind range : Int} {l : List Pv} (h : ∀ v ∈ l, v.chk ok kind range = ok) {x : Pv} (hx : x ∈ clAll l) : x.chk ok kind range = ok :=
  clAll_least (S := fun x => x.chk ok kind range = ok) h (fun x _ y hy => Pv.chk_needs hy) hx
end Go.Proofs.Ytekcfjfkbiciaaa
