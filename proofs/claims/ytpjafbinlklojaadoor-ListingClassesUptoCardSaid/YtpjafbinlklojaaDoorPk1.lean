/- Joined texts: PvPlain, Grow, Str, Append, Ints, Unique, Order, Strs. -/
import Derived.Lib.SlicesCompact
import Derived.WalkKit
import Derived.WalkSpells
import Derived.WalkLawsBesides
import Derived.BigQuiet
import Derived.Laws.IdiomStrings
import Derived.Deep.AppendSrc
import Derived.Deep.AppendLies
import Derived.Deep.Upon
import Derived.Test.YtpjafbinlklojaaDoorProg
import Derived.Lib.Hide
import Derived.Laws.AppendOwn
import Derived.StillTail
import Derived.Lib.Join
/- Values of a pool, what they need, and their order: plain law, no program. -/
namespace Go.Proofs.YtpjafbinlklojaaDoor

/-! ### Orders -/
structure Lin {α : Type} (lt : α → α → Prop) : Prop where
  irrefl : ∀ a, ¬ lt a a
  trans : ∀ a b c, lt a b → lt b c → lt a c
  tri : ∀ a b, lt a b ∨ a = b ∨ lt b a
theorem Lin.ne {α : Type} {lt : α → α → Prop} (L : Lin lt) {a b : α} (h : lt a b) : a ≠ b := fun e => L.irrefl b (e ▸ h)
theorem Lin.asymm {α : Type} {lt : α → α → Prop} (L : Lin lt) {a b : α} (h : lt a b) : ¬ lt b a := fun h2 => L.irrefl a (L.trans _ _ _ h h2)
def lexL {α β : Type} (l1 : α → α → Prop) (l2 : β → β → Prop) (p q : α × β) : Prop := l1 p.1 q.1 ∨ (p.1 = q.1 ∧ l2 p.2 q.2)
theorem lexL_lin {α β : Type} {l1 : α → α → Prop} {l2 : β → β → Prop} (A : Lin l1) (B : Lin l2) : Lin (lexL l1 l2) where
  irrefl a h := by
    rcases h with h | ⟨_, h⟩
    · exact A.irrefl _ h
    · exact B.irrefl _ h
  trans a b c h1 h2 := by
    rcases h1 with h1 | ⟨e1, h1⟩
    · rcases h2 with h2 | ⟨e2, _⟩
      · exact .inl (A.trans _ _ _ h1 h2)
      · exact .inl (e2 ▸ h1)
    · rcases h2 with h2 | ⟨e2, h2⟩
      · exact .inl (e1 ▸ h2)
      · exact .inr ⟨e1.trans e2, B.trans _ _ _ h1 h2⟩
  tri a b := by
    rcases A.tri a.1 b.1 with h | h | h
    · exact .inl (.inl h)
    · rcases B.tri a.2 b.2 with h' | h' | h'
      · exact .inl (.inr ⟨h, h'⟩)
      · exact .inr (.inl (Prod.ext h h'))
      · exact .inr (.inr (.inr ⟨h.symm, h'⟩))
    · exact .inr (.inr (.inl h))
theorem intL : Lin (fun a b : Int => a < b) := ⟨fun a h => by omega, fun a b c h1 h2 => by omega, fun a b => by omega⟩
theorem natL : Lin (fun a b : Nat => a < b) := ⟨fun a h => by omega, fun a b c h1 h2 => by omega, fun a b => by omega⟩
theorem txtL : Lin (fun a b : List UInt8 => a < b) where
  irrefl a := List.not_lt.2 (List.le_refl a)
  trans a b c h1 h2 := List.lt_trans h1 h2
  tri a b := by
    by_cases h1 : a < b
    · exact .inl h1
    · by_cases h2 : b < a
      · exact .inr (.inr h2)
      · exact .inr (.inl (List.le_antisymm (List.not_lt.1 h2) (List.not_lt.1 h1)))

/-! ### Values -/
structure Pv where
  tag : Int
  text : List UInt8
  bits : Nat
  cls : List UInt8
  name : List UInt8
  desc : List UInt8
def Pv.key (v : Pv) : Int × List UInt8 × Nat × List UInt8 × List UInt8 × List UInt8 := (v.tag, v.text, v.bits, v.cls, v.name, v.desc)
theorem Pv.key_inj {a b : Pv} (h : a.key = b.key) : a = b := by
  cases a; cases b
  simp only [Pv.key, Prod.mk.injEq] at h
  obtain ⟨rfl, rfl, rfl, rfl, rfl, rfl⟩ := h
  rfl
instance : DecidableEq Pv := fun a b => if h : a.key = b.key then isTrue (Pv.key_inj h) else isFalse (fun e => h (e ▸ rfl))
def Pv.zero : Pv := ⟨0, [], 0, [], [], []⟩
def Pv.ofText (s : List UInt8) : Pv := ⟨1, s, 0, [], [], []⟩
def Pv.ofCls (s : List UInt8) : Pv := ⟨7, s, 0, [], [], []⟩
def Pv.ofPair (n d : List UInt8) : Pv := ⟨12, [], 0, [], n, d⟩
def Pv.wide (v : Pv) : Bool := v.tag == 5 || v.tag == 6
def Pv.needs (v : Pv) : List Pv :=
  if v.tag = 7 ∨ v.tag = 8 then [Pv.ofText v.text]
  else if v.tag = 12 then [Pv.ofText v.name, Pv.ofText v.desc]
  else if v.tag = 9 ∨ v.tag = 10 ∨ v.tag = 11 then [Pv.ofCls v.cls, Pv.ofPair v.name v.desc]
  else []
def Pv.lt (a b : Pv) : Prop := lexL (fun a b : Int => a < b) (lexL (fun a b : List UInt8 => a < b) (lexL (fun a b : Nat => a < b) (lexL (fun a b : List UInt8 => a < b) (lexL (fun a b : List UInt8 => a < b) (fun a b : List UInt8 => a < b))))) a.key b.key
theorem Pv.lin : Lin Pv.lt := by
  have L := lexL_lin intL (lexL_lin txtL (lexL_lin natL (lexL_lin txtL (lexL_lin txtL txtL))))
  exact ⟨fun a => L.irrefl _, fun a b c => L.trans _ _ _, fun a b => (L.tri a.key b.key).imp_right (Or.imp_left Pv.key_inj)⟩
noncomputable instance : DecidableRel Pv.lt := fun _ _ => Classical.propDecidable _

/-! ### What is wrong with a value: 0: nothing -/
def Pv.chk (ok kind range : Int) (v : Pv) : Int :=
  if v.tag = 1 ∨ v.tag = 7 ∨ v.tag = 8 then (if v.bits = 0 ∧ v.cls = [] ∧ v.name = [] ∧ v.desc = [] then ok else kind)
  else if v.tag = 3 ∨ v.tag = 4 ∨ v.tag = 5 ∨ v.tag = 6 then (if v.text = [] ∧ v.cls = [] ∧ v.name = [] ∧ v.desc = [] then (if (v.tag = 3 ∨ v.tag = 4) ∧ 4294967296 ≤ v.bits then range else ok) else kind)
  else if v.tag = 12 then (if v.text = [] ∧ v.bits = 0 ∧ v.cls = [] then ok else kind)
  else if v.tag = 9 ∨ v.tag = 10 ∨ v.tag = 11 then (if v.text = [] ∧ v.bits = 0 then ok else kind)
  else kind

/-! ### Rows in order, each once -/
section
variable {α : Type} [DecidableEq α] {lt : α → α → Prop} [DecidableRel lt]
def putO (lt : α → α → Prop) [DecidableRel lt] (l : List α) (v : α) : List α :=
  if v ∈ l then l else l.takeWhile (fun x => decide (lt x v)) ++ v :: l.dropWhile (fun x => decide (lt x v))
theorem putO_mem (l : List α) (v x : α) : x ∈ putO lt l v ↔ x ∈ l ∨ x = v := by
  unfold putO
  split
  · rename_i h
    constructor
    · exact .inl
    · rintro (h1 | rfl)
      · exact h1
      · exact h
  · have : x ∈ l ↔ x ∈ l.takeWhile (fun x => decide (lt x v)) ∨ x ∈ l.dropWhile (fun x => decide (lt x v)) := by
      rw [← List.mem_append, List.takeWhile_append_dropWhile]
    rw [this, List.mem_append, List.mem_cons]
    constructor
    · rintro (h | rfl | h)
      · exact .inl (.inl h)
      · exact .inr rfl
      · exact .inl (.inr h)
    · rintro ((h | h) | rfl)
      · exact .inl h
      · exact .inr (.inr h)
      · exact .inr (.inl rfl)
omit [DecidableEq α] in
theorem drop_above (L : Lin lt) {v : α} : ∀ {l : List α}, l.Pairwise lt → v ∉ l → ∀ x ∈ l.dropWhile (fun x => decide (lt x v)), lt v x
  | [], _, _, x, h => by simp at h
  | y :: l, hp, hv, x, h => by
    rw [List.dropWhile_cons] at h
    by_cases hy : lt y v
    · rw [if_pos (by simpa using hy)] at h
      exact drop_above L (List.pairwise_cons.1 hp).2 (fun e => hv (List.mem_cons_of_mem _ e)) x h
    · rw [if_neg (by simpa using hy)] at h
      have hvy : lt v y := by
        rcases L.tri y v with h1 | h1 | h1
        · exact absurd h1 hy
        · exact absurd (h1 ▸ List.mem_cons_self ..) hv
        · exact h1
      rcases List.mem_cons.1 h with rfl | h
      · exact hvy
      · exact L.trans _ _ _ hvy ((List.pairwise_cons.1 hp).1 x h)
omit [DecidableEq α] in
theorem mem_takeWhile_sat {p : α → Bool} : ∀ {l : List α} {x : α}, x ∈ l.takeWhile p → p x = true
  | [], _, h => by simp at h
  | y :: l, x, h => by
    rw [List.takeWhile_cons] at h
    split at h
    · rcases List.mem_cons.1 h with rfl | h
      · assumption
      · exact mem_takeWhile_sat h
    · simp at h
theorem putO_rises (L : Lin lt) {l : List α} (h : l.Pairwise lt) (v : α) : (putO lt l v).Pairwise lt := by
  unfold putO
  split
  · exact h
  · rename_i hv
    have hd := drop_above L h hv
    have ht : ∀ x ∈ l.takeWhile (fun x => decide (lt x v)), lt x v := fun x hx => by simpa using mem_takeWhile_sat hx
    have hp : (l.takeWhile (fun x => decide (lt x v)) ++ l.dropWhile (fun x => decide (lt x v))).Pairwise lt := by rw [List.takeWhile_append_dropWhile]; exact h
    obtain ⟨p1, p2, p3⟩ := List.pairwise_append.1 hp
    refine List.pairwise_append.2 ⟨p1, List.pairwise_cons.2 ⟨hd, p2⟩, fun a ha b hb => ?_⟩
    rcases List.mem_cons.1 hb with rfl | hb
    · exact ht a ha
    · exact p3 a ha b hb
def sd (lt : α → α → Prop) [DecidableRel lt] (l : List α) : List α := l.foldl (putO lt) []
theorem sd_aux (L : Lin lt) : ∀ (l acc : List α), acc.Pairwise lt → (l.foldl (putO lt) acc).Pairwise lt ∧ ∀ x, x ∈ l.foldl (putO lt) acc ↔ x ∈ acc ∨ x ∈ l
  | [], acc, h => ⟨h, fun x => by simp⟩
  | v :: l, acc, h => by
    obtain ⟨h1, h2⟩ := sd_aux L l (putO lt acc v) (putO_rises L h v)
    refine ⟨h1, fun x => ?_⟩
    rw [List.foldl_cons, h2, putO_mem, List.mem_cons]
    constructor
    · rintro ((h | h) | h)
      · exact .inl h
      · exact .inr (.inl h)
      · exact .inr (.inr h)
    · rintro (h | h | h)
      · exact .inl (.inl h)
      · exact .inl (.inr h)
      · exact .inr h
theorem sd_rises (L : Lin lt) (l : List α) : (sd lt l).Pairwise lt := (sd_aux L l [] List.Pairwise.nil).1
theorem sd_mem (L : Lin lt) (l : List α) (x : α) : x ∈ sd lt l ↔ x ∈ l := ((sd_aux L l [] List.Pairwise.nil).2 x).trans (by simp)
omit [DecidableRel lt] in
omit [DecidableEq α] in
theorem rises_uniq (L : Lin lt) : ∀ {a b : List α}, a.Pairwise lt → b.Pairwise lt → (∀ x, x ∈ a ↔ x ∈ b) → a = b
  | [], b, _, _, h => by
    cases b with
    | nil => rfl
    | cons y b => exact absurd ((h y).2 (List.mem_cons_self ..)) (by simp)
  | x :: a, [], _, _, h => absurd ((h x).1 (List.mem_cons_self ..)) (by simp)
  | x :: a, y :: b, ha, hb, h => by
    obtain ⟨a1, a2⟩ := List.pairwise_cons.1 ha
    obtain ⟨b1, b2⟩ := List.pairwise_cons.1 hb
    have e : x = y := by
      rcases List.mem_cons.1 ((h x).1 (List.mem_cons_self ..)) with e | hx
      · exact e
      · rcases List.mem_cons.1 ((h y).2 (List.mem_cons_self ..)) with e | hy
        · exact e.symm
        · exact absurd (b1 x hx) (L.asymm (a1 y hy))
    subst e
    rw [rises_uniq L a2 b2 fun z => ?_]
    constructor
    · intro hz
      rcases List.mem_cons.1 ((h z).1 (List.mem_cons_of_mem _ hz)) with rfl | h'
      · exact absurd (a1 _ hz) (L.irrefl _)
      · exact h'
    · intro hz
      rcases List.mem_cons.1 ((h z).2 (List.mem_cons_of_mem _ hz)) with rfl | h'
      · exact absurd (b1 _ hz) (L.irrefl _)
      · exact h'
omit [DecidableRel lt] in
omit [DecidableEq α] in
theorem rises_nodup (L : Lin lt) {l : List α} (h : l.Pairwise lt) : l.Nodup := h.imp fun h => L.ne h
end

/-! ### All that is needed -/
def Pv.cl (v : Pv) : List Pv := v :: (v.needs ++ v.needs.flatMap Pv.needs)
def clAll (l : List Pv) : List Pv := l.flatMap Pv.cl
theorem Pv.needs_text (s : List UInt8) : (Pv.ofText s).needs = [] := by simp [Pv.needs, Pv.ofText]
theorem Pv.needs_cls (s : List UInt8) : (Pv.ofCls s).needs = [Pv.ofText s] := by simp [Pv.needs, Pv.ofCls]
theorem Pv.needs_pair (n d : List UInt8) : (Pv.ofPair n d).needs = [Pv.ofText n, Pv.ofText d] := by simp [Pv.needs, Pv.ofPair]
theorem Pv.needs3 (v a b : Pv) (h1 : a ∈ v.needs) (h2 : b ∈ a.needs) : b.needs = [] := by
  unfold Pv.needs at h1
  split at h1
  · simp only [List.mem_singleton] at h1
    subst h1
    simp [Pv.needs_text] at h2
  · split at h1
    · simp only [List.mem_cons, List.not_mem_nil, or_false] at h1
      rcases h1 with rfl | rfl <;> simp [Pv.needs_text] at h2
    · split at h1
      · simp only [List.mem_cons, List.not_mem_nil, or_false] at h1
        rcases h1 with rfl | rfl
        · rw [Pv.needs_cls] at h2
          simp only [List.mem_singleton] at h2
          subst h2
          exact Pv.needs_text _
        · rw [Pv.needs_pair] at h2
          simp only [List.mem_cons, List.not_mem_nil, or_false] at h2
          rcases h2 with rfl | rfl <;> exact Pv.needs_text _
      · simp at h1
theorem mem_cl {v x : Pv} : x ∈ v.cl ↔ x = v ∨ x ∈ v.needs ∨ ∃ y ∈ v.needs, x ∈ y.needs := by
  simp [Pv.cl]
theorem cl_closed {v x y : Pv} (hx : x ∈ v.cl) (hy : y ∈ x.needs) : y ∈ v.cl := by
  rw [mem_cl] at hx ⊢
  rcases hx with rfl | h | ⟨z, h1, h2⟩
  · exact .inr (.inl hy)
  · exact .inr (.inr ⟨x, h, hy⟩)
  · rw [Pv.needs3 _ _ _ h1 h2] at hy
    simp at hy
theorem clAll_closed {l : List Pv} {x y : Pv} (hx : x ∈ clAll l) (hy : y ∈ x.needs) : y ∈ clAll l := by
  obtain ⟨v, hv, h⟩ := List.mem_flatMap.1 hx
  exact List.mem_flatMap.2 ⟨v, hv, cl_closed h hy⟩
theorem clAll_has {l : List Pv} {x : Pv} (hx : x ∈ l) : x ∈ clAll l := List.mem_flatMap.2 ⟨x, hx, by simp [Pv.cl]⟩
/-- The least set that has these and what its values need. -/
theorem clAll_least {l : List Pv} {S : Pv → Prop} (h0 : ∀ x ∈ l, S x) (hs : ∀ x, S x → ∀ y ∈ x.needs, S y) {x : Pv} (hx : x ∈ clAll l) : S x := by
  obtain ⟨v, hv, h⟩ := List.mem_flatMap.1 hx
  rw [mem_cl] at h
  rcases h with rfl | h | ⟨z, h1, h2⟩
  · exact h0 _ hv
  · exact hs _ (h0 _ hv) _ h
  · exact hs _ (hs _ (h0 _ hv) _ h1) _ h2
/-- How many steps a value takes. -/
def Pv.wt (v : Pv) : Nat := v.cl.length
theorem Pv.wt_needs (v : Pv) : (v.needs.map Pv.wt).sum < v.wt := by
  have h : ∀ l : List Pv, (∀ a ∈ l, ∀ b ∈ a.needs, b.needs = []) → (l.map Pv.wt).sum = l.length + (l.flatMap Pv.needs).length := fun l => by
    induction l with
    | nil => intro _; rfl
    | cons a l ih =>
      intro h
      have e : a.needs.flatMap Pv.needs = [] := List.flatMap_eq_nil_iff.2 (h a (List.mem_cons_self ..))
      rw [List.map_cons, List.sum_cons, ih fun a ha => h a (List.mem_cons_of_mem _ ha)]
      simp only [Pv.wt, Pv.cl, e, List.append_nil, List.length_cons, List.flatMap_cons, List.length_append]
      omega
  rw [h _ fun a ha b hb => Pv.needs3 v a b ha hb]
  simp only [Pv.wt, Pv.cl, List.length_cons, List.length_append]
  omega
theorem Pv.needs_len (v : Pv) : v.needs.length ≤ 2 := by
  unfold Pv.needs
  split
  · simp
  · split
    · simp
    · split <;> simp
theorem Pv.wt_le (v : Pv) : v.wt ≤ 7 := by
  unfold Pv.wt Pv.cl
  have h1 := v.needs_len
  have h2 : (v.needs.flatMap Pv.needs).length ≤ v.needs.length * 2 := by
    generalize v.needs = l
    induction l with
    | nil => simp
    | cons a l ih =>
      have := a.needs_len
      simp only [List.flatMap_cons, List.length_append, List.length_cons]
      omega
  simp only [List.length_cons, List.length_append]
  omega
/-! ### The pool -/
def Pv.room (v : Pv) : Nat := if v.wide then 2 else 1
def Pv.slot (v : Pv) : List Pv := if v.wide then [v, v] else [v]
def Pv.slots (l : List Pv) : List Pv := Pv.zero :: l.flatMap Pv.slot
noncomputable def Pv.rest (low all : List Pv) : List Pv := sd Pv.lt ((clAll (low ++ all)).filter fun x => decide (x ∉ low))
noncomputable def Pv.ord (low all : List Pv) : List Pv := sd Pv.lt low ++ Pv.rest low all
theorem Pv.rest_mem (low all : List Pv) (x : Pv) : x ∈ Pv.rest low all ↔ x ∈ clAll (low ++ all) ∧ x ∉ low := by
  unfold Pv.rest
  rw [sd_mem Pv.lin, List.mem_filter]
  simp
theorem Pv.ord_mem (low all : List Pv) (x : Pv) : x ∈ Pv.ord low all ↔ x ∈ clAll (low ++ all) := by
  unfold Pv.ord
  rw [List.mem_append, sd_mem Pv.lin, Pv.rest_mem]
  constructor
  · rintro (h | h)
    · exact clAll_has (by simp [h])
    · exact h.1
  · intro h
    by_cases hx : x ∈ low
    · exact .inl hx
    · exact .inr ⟨h, hx⟩
theorem Pv.ord_nodup (low all : List Pv) : (Pv.ord low all).Nodup := by
  unfold Pv.ord
  refine List.nodup_append.2 ⟨rises_nodup Pv.lin (sd_rises Pv.lin _), rises_nodup Pv.lin (sd_rises Pv.lin _), fun a ha b hb e => ?_⟩
  subst e
  exact ((Pv.rest_mem _ _ _).1 hb).2 ((sd_mem Pv.lin _ _).1 ha)
/-- What is told of a value's number, from number n on. -/
def Pv.numFrom : Nat → List Pv → Pv → Nat
  | _, [], _ => 0
  | n, x :: xs, v => if x = v then n else Pv.numFrom (n + x.room) xs v
def Pv.num (l : List Pv) (v : Pv) : Nat := Pv.numFrom 1 l v
def Pv.fst : Nat → List Pv → Pv → Nat
  | _, [], _ => 0
  | n, x :: xs, v => if x = v then n else Pv.fst (n + 1) xs v
theorem Pv.fst_slots (v : Pv) : ∀ (l : List Pv) (n : Nat), Pv.fst n (l.flatMap Pv.slot) v = Pv.numFrom n l v
  | [], _ => rfl
  | x :: l, n => by
    have ih := Pv.fst_slots v l
    rw [List.flatMap_cons]
    unfold Pv.slot Pv.numFrom Pv.room
    split
    · simp only [List.cons_append, List.nil_append, Pv.fst]
      split
      · rfl
      · rw [Nat.add_assoc]; exact ih _
    · simp only [List.cons_append, List.nil_append, Pv.fst]
      split
      · rfl
      · exact ih _
theorem Pv.slot_len (v : Pv) : v.slot.length = v.room := by unfold Pv.slot Pv.room; split <;> rfl
theorem Pv.slots_len (l : List Pv) : (Pv.slots l).length = 1 + (l.map Pv.room).sum := by
  unfold Pv.slots
  rw [List.length_cons, List.length_flatMap, Nat.add_comm]
  refine congrArg (fun l => 1 + List.sum l) (List.map_congr_left fun v _ => Pv.slot_len v)
theorem Pv.numFrom_none {v : Pv} : ∀ {l : List Pv} {n : Nat}, v ∉ l → Pv.numFrom n l v = 0
  | [], _, _ => rfl
  | x :: l, n, h => by
    unfold Pv.numFrom
    rw [if_neg (fun e : x = v => h (e ▸ List.mem_cons_self ..))]
    exact Pv.numFrom_none fun e => h (List.mem_cons_of_mem _ e)
theorem Pv.numFrom_app (v : Pv) : ∀ (a b : List Pv) (n : Nat), Pv.numFrom n (a ++ b) v = if v ∈ a then Pv.numFrom n a v else Pv.numFrom (n + (a.map Pv.room).sum) b v
  | [], b, n => by simp
  | x :: a, b, n => by
    have ih := Pv.numFrom_app v a b (n + x.room)
    rw [List.cons_append]
    by_cases h : x = v
    · subst h
      simp [Pv.numFrom]
    · have e : (v ∈ x :: a) ↔ v ∈ a := by simp [Ne.symm h]
      have e1 : Pv.numFrom n (x :: (a ++ b)) v = Pv.numFrom (n + x.room) (a ++ b) v := by rw [Pv.numFrom, if_neg h]
      have e2 : Pv.numFrom n (x :: a) v = Pv.numFrom (n + x.room) a v := by rw [Pv.numFrom, if_neg h]
      rw [e1, e2, ih]
      simp only [e, List.map_cons, List.sum_cons, Nat.add_assoc]

/-! ### Constants -/
structure Rw where
  tag : Int
  text : List UInt8
  bits : Nat
  a : Nat
  b : Nat
def Rw.zero : Rw := ⟨0, [], 0, 0, 0⟩
def Pv.rawOf (nm : Pv → Nat) (v : Pv) : Rw :=
  match v.needs with
  | [] => ⟨v.tag, v.text, v.bits, 0, 0⟩
  | [x] => ⟨v.tag, [], v.bits, nm x, 0⟩
  | x :: y :: _ => ⟨v.tag, [], v.bits, nm x, nm y⟩
def Pv.raw1 (nm : Pv → Nat) (v : Pv) : List Rw := if v.wide then [v.rawOf nm, Rw.zero] else [v.rawOf nm]
def Pv.raws (l : List Pv) : List Rw := Rw.zero :: l.flatMap (Pv.raw1 (Pv.num l))
/-- The document's. -/
def Pv.rawRef (nm : Pv → Nat) (v : Pv) : Rw := ⟨v.tag, if v.tag = 1 then v.text else [], v.bits, (v.needs[0]?.map nm).getD 0, (v.needs[1]?.map nm).getD 0⟩
def Pv.rawGo (nm : Pv → Nat) : Pv → Bool → Bool → List Pv → List Rw
  | _, _, _, [] => []
  | p, first, half, v :: vs =>
    (if (!first && v.wide && decide (v = p) && !half) = true then Rw.zero else v.rawRef nm) :: Pv.rawGo nm v false (!first && v.wide && decide (v = p) && !half) vs
theorem Pv.raw_same {ok kind range : Int} (hk : ok ≠ kind) (_hr : ok ≠ range) {v : Pv} (h : v.chk ok kind range = ok) (nm : Pv → Nat) : v.rawRef nm = v.rawOf nm := by
  unfold Pv.chk at h
  unfold Pv.rawRef Pv.rawOf Pv.needs
  split at h
  · rename_i h1
    rcases h1 with h1 | h1 | h1 <;> simp [h1]
  · split at h
    · rename_i h1
      split at h
      · rename_i h2
        rcases h1 with h1 | h1 | h1 | h1 <;> simp [h1, h2]
      · exact absurd h.symm hk
    · split at h
      · rename_i h1
        simp [h1]
      · split at h
        · rename_i h1
          rcases h1 with h1 | h1 | h1 <;> simp [h1]
        · exact absurd h.symm hk
theorem Pv.rawGo_same (nm : Pv → Nat) : ∀ (l : List Pv), l.Nodup → (∀ v ∈ l, v.rawRef nm = v.rawOf nm) → ∀ (p : Pv) (first half : Bool), first = true ∨ p ∉ l → Pv.rawGo nm p first half (l.flatMap Pv.slot) = l.flatMap (Pv.raw1 nm)
  | [], _, _, _, _, _, _ => rfl
  | v :: l, hn, hs, p, first, half, hp => by
    obtain ⟨n1, n2⟩ := List.nodup_cons.1 hn
    have e1 : (!first && v.wide && decide (v = p) && !half) = false := by
      rcases hp with rfl | hp
      · rfl
      · have : v ≠ p := fun e => hp (e ▸ List.mem_cons_self ..)
        simp [this]
    have ih := Pv.rawGo_same nm l n2 (fun x hx => hs x (List.mem_cons_of_mem _ hx)) v false
    rw [List.flatMap_cons, List.flatMap_cons]
    unfold Pv.slot Pv.raw1
    cases hw : v.wide
    · simp only [Bool.false_eq_true, if_false, List.cons_append, List.nil_append]
      unfold Pv.rawGo
      rw [e1]
      simp only [Bool.false_eq_true, if_false]
      rw [hs v (List.mem_cons_self ..)]
      exact congrArg _ (ih false (.inr n1))
    · simp only [if_true, List.cons_append, List.nil_append]
      unfold Pv.rawGo
      rw [e1]
      simp only [Bool.false_eq_true, if_false]
      rw [hs v (List.mem_cons_self ..)]
      refine congrArg _ ?_
      unfold Pv.rawGo
      rw [hw]
      simp only [Bool.not_false, Bool.and_true, decide_true, if_true]
      exact congrArg _ (ih true (.inr n1))
/-- The needs of a value that may be may be. -/
theorem Pv.chk_needs {ok kind range : Int} {v x : Pv} (hx : x ∈ v.needs) : x.chk ok kind range = ok := by
  unfold Pv.needs at hx
  split at hx
  · simp only [List.mem_singleton] at hx
    subst hx
    simp [Pv.chk, Pv.ofText]
  · split at hx
    · simp only [List.mem_cons, List.not_mem_nil, or_false] at hx
      rcases hx with rfl | rfl <;> simp [Pv.chk, Pv.ofText]
    · split at hx
      · simp only [List.mem_cons, List.not_mem_nil, or_false] at hx
        rcases hx with rfl | rfl <;> simp [Pv.chk, Pv.ofCls, Pv.ofPair]
      · simp at hx
theorem Pv.chk_cl {ok kind range : Int} {l : List Pv} (h : ∀ v ∈ l, v.chk ok kind range = ok) {x : Pv} (hx : x ∈ clAll l) : x.chk ok kind range = ok :=
  clAll_least (S := fun x => x.chk ok kind range = ok) h (fun _x _ _y hy => Pv.chk_needs hy) hx
end Go.Proofs.YtpjafbinlklojaaDoor

/- Regions that draw their order and whose calls may make memory: one walk in the order of the text, at the class of worlds in which all that stood at the region's head is as it was. No program. -/
namespace Go.Proofs.YtpjafbinlklojaaDoor
open Go.RowKit

/-- A world in which all blocks of 'w' are as they were. -/
def Gr (w : World) : Type := { w' : World // Below w.heap.size w w' }
instance Gr.some (w : World) : Nonempty (Gr w) := ⟨⟨w, Below.refl _ _⟩⟩
@[go_sem] theorem Gr.cell {w : World} (g : Gr w) (b o : Nat) (h : b < w.heap.size) : g.1.cell? ⟨b, o, none⟩ = w.cell? ⟨b, o, none⟩ := g.2.cell (p := ⟨b, o, none⟩) h
@[go_sem] theorem Gr.frozen {w : World} (g : Gr w) (b o : Nat) (h : b < w.heap.size) : g.1.frozen? ⟨b, o, none⟩ = w.frozen? ⟨b, o, none⟩ := g.2.frozen (p := ⟨b, o, none⟩) h
theorem Gr.size {w : World} (g : Gr w) : w.heap.size ≤ g.1.heap.size := g.2.size
theorem Gr.call {P : Program} {f : FuncId} {args : Array Value} {w : World} {g : Gr w} {v : Value}
    (h : Calls P f args g.1 fun e w' => e = .returned v ∧ Below g.1.heap.size g.1 w') :
    Calls P f args g.1 fun e w' => e = .returned v ∧ ∃ k : Gr w, w' = k.1 :=
  h.mono fun _ w' ⟨he, hb⟩ => ⟨he, ⟨w', g.2.trans (hb.mono g.size)⟩, rfl⟩
theorem Gr.same {P : Program} {f : FuncId} {args : Array Value} {w : World} {g : Gr w} {v : Value}
    (h : Calls P f args g.1 fun e w' => e = .returned v ∧ g.1 = w') :
    Calls P f args g.1 fun e w' => e = .returned v ∧ ∃ k : Gr w, w' = k.1 :=
  h.mono fun _ _ ⟨he, hb⟩ => ⟨he, g, hb.symm⟩
theorem Gr.drew {P : Program} {f : FuncId} {args : Array Value} {w : World} {g : Gr w} {v : Value}
    (h : Calls P f args g.1 fun e w' => e = .returned v ∧ ∃ n, w' = g.1.drewN n) :
    Calls P f args g.1 fun e w' => e = .returned v ∧ ∃ k : Gr w, w' = k.1 :=
  h.mono fun _ w' ⟨he, n, hb⟩ => ⟨he, ⟨w', by rw [hb]; exact below_drewN g.2 n⟩, rfl⟩
theorem wp_region_grow {P : Program} {id : Nat} {Q : Exit → Act → World → Prop} {a : Act} {w : World} {l : List Oper} (hm : P.follows .mixedOrders = true) (hB : Region.lexB .any l.toArray = true)
    (h : wpQuiet P l.toArray (fun w' => ∃ g : Gr w, w' = g.1) (fun a' => ∀ g : Gr w, Q .normal a' g.1) l a) : (Code.region id l.toArray true).wp P Q a w := by
  refine wp_region_quiet (C := fun w' => ∃ g : Gr w, w' = g.1) hm hB ⟨⟨w.drew, (Below.refl _ _).drew⟩, rfl⟩ ?_
  have e : (fun a' => ∀ w', (∃ g : Gr w, w' = g.1) → Q .normal a' w') = fun a' => ∀ g : Gr w, Q .normal a' g.1 := by
    funext a'; apply propext; exact ⟨fun H g => H _ ⟨g, rfl⟩, fun H w' ⟨g, hg⟩ => hg ▸ H g⟩
  rw [e]; simpa using h

theorem Below.after {B : Nat} {a w w' : World} (h : Below B a w) (k : Below w.heap.size w w') (hB : B ≤ w.heap.size) : Below B a w' := h.trans (k.mono hB)
theorem Below.after' {B : Nat} {a w w' : World} (h : Below B a w) (k : Below w.heap.size w w') (hB : B ≤ a.heap.size) : Below B a w' := h.trans (k.mono (Nat.le_trans hB h.size))
theorem Below.alloc' {B : Nat} {a w : World} (h : Below B a w) (hB : B ≤ a.heap.size) (o : Obj) : Below B a (w.alloc o) := h.alloc (Nat.le_trans hB h.size) o
/-- A store into the block that was laid behind 'w'. -/
theorem Below.setNew {B : Nat} {a w w1 : World} (h : Below B a w) (hB : B ≤ a.heap.size) (h1 : Below B a w1) (o : Nat) (u : Value) : Below B a (w1.setCell ⟨w.heap.size, o, none⟩ u) := h1.setCell (p := ⟨w.heap.size, o, none⟩) (Nat.le_trans hB h.size) u
theorem ret_int {k : IntKind} {a b : Int} (h : a = b) : Ending.returned (.int k a) = .returned (.int k b) := by rw [h]
theorem ret_bool {a b : Bool} (h : a = b) : Ending.returned (.bool a) = .returned (.bool b) := by rw [h]
theorem bcell {W w1 : World} (hb : Below W.heap.size W w1) : (∀ b o, b < W.heap.size → w1.cell? ⟨b, o, none⟩ = W.cell? ⟨b, o, none⟩) ∧ (∀ b o, b < W.heap.size → w1.frozen? ⟨b, o, none⟩ = W.frozen? ⟨b, o, none⟩) :=
  ⟨fun b o h => hb.cell (p := ⟨b, o, none⟩) h, fun b o h => hb.frozen (p := ⟨b, o, none⟩) h⟩
theorem calls_below {P : Program} {f : FuncId} {args : Array Value} {w : World} {v : Value} (h : Calls P f args w fun e w' => e = .returned v ∧ w = w') :
    Calls P f args w fun e w' => e = .returned v ∧ Below w.heap.size w w' := h.mono fun _ _ ⟨he, hb⟩ => ⟨he, hb ▸ Below.refl _ _⟩
end Go.Proofs.YtpjafbinlklojaaDoor

/- Strings as lists of bytes; conversions. No program. -/
namespace Go.Proofs.YtpjafbinlklojaaDoor
open Go.RowKit

/-- The string of these bytes. -/
def bs (l : List UInt8) : ByteArray := ⟨l.toArray⟩
theorem bs_append (x y : List UInt8) : bs x ++ bs y = bs (x ++ y) := ByteArray.mk_append_mk x y
theorem bs_toList (l : List UInt8) : (bs l).data.toList = l := rfl
theorem bs_list (l : List UInt8) : (bs l).toList = l := by rw [ByteArray.toList_eq]; rfl
theorem bs_beq (x y : List UInt8) : ((bs x).toList == (bs y).toList) = decide (x = y) := by rw [bs_list, bs_list]; by_cases h : x = y <;> simp [h]
theorem bs_of (s : ByteArray) : bs s.data.toList = s := rfl
theorem bs_size (l : List UInt8) : (bs l).size = l.length := by unfold bs ByteArray.size; simp
theorem size_toList (s : ByteArray) : s.data.toList.length = s.size := Array.length_toList
theorem bs_inj {x y : List UInt8} (h : bs x = bs y) : x = y := congrArg (fun s : ByteArray => s.data.toList) h
theorem bs_eq_iff {x y : List UInt8} : bs x = bs y ↔ x = y := ⟨bs_inj, fun h => by rw [h]⟩
theorem toNat_ofNat {n : Nat} (h : n < 256) : (UInt8.ofNat n).toNat = n := by simp; omega
theorem bs_get (l : List UInt8) (i : Nat) (h : i < (bs l).size) : (bs l)[i] = l[i]'(by rwa [bs_size] at h) := by rfl
theorem bs_extract (l : List UInt8) (a b : Nat) : (bs l).extract a b = bs ((l.drop a).take (b - a)) := by
  have h : ((bs l).extract a b).data = (bs l).data.extract a b := ByteArray.data_extract ..
  have e : (bs l).extract a b = ⟨(bs l).data.extract a b⟩ := by rw [← h]
  rw [e]
  unfold bs
  congr 1
  apply Array.ext'
  simp [List.take_drop]

/-- 'string(b)' of a row of the call's own: bytes. -/
theorem run_string_of_row {P : Program} (w : World) (src dst e : TypeId) (base : Nat) (v : Value) (l : List UInt8) (hs : P.underlying src = some (.slice e)) (he : P.underlying e = some (.int .u8)) (hd : P.underlying dst = some .string)
    (h : w.ownsRow base e 1 v l.length (l.map fun b => Value.int .u8 (b.toNat : Int))) : (convert src dst v).run P w = .ok (.string (bs l)) w := by
  have hc := fun (g : Nat) (hg : v.ownBlock = some g) => h.cells hg
  rcases h.2 with ⟨rfl, hn⟩ | ⟨g, cap, cur, rfl, _, _, _⟩
  · have : l = [] := List.eq_nil_of_length_eq_zero hn
    subst this
    exact run_convert_bytes_nil w src e hs he 0 0 dst hd
  · refine run_convert_bytes_back w src dst e _ cap l hs he hd fun j hj => ?_
    exact hc g rfl j _ (by simp [hj])
end Go.Proofs.YtpjafbinlklojaaDoor

/- append onto a row of the call's own, out of whatever source: the row's block, and what else has turned. No program. -/
namespace Go.Proofs.YtpjafbinlklojaaDoor
open Go.RowKit

theorem list_set_take (l vs : List Value) (v : Value) (o : Nat) (h : o + (vs.length + 1) ≤ l.length) :
    (l.set o v).take (o + 1) ++ vs ++ (l.set o v).drop (o + 1 + vs.length) = l.take o ++ (v :: vs) ++ l.drop (o + (vs.length + 1)) := by
  have e1 : (l.set o v).take (o + 1) = l.take o ++ [v] := by
    rw [List.take_succ_eq_append_getElem (by simp; omega)]
    rw [List.take_set, List.set_eq_of_length_le (by simp [Nat.min_le_left])]
    simp
  have e2 : (l.set o v).drop (o + 1 + vs.length) = l.drop (o + (vs.length + 1)) := by
    rw [List.drop_set_of_lt (by omega)]
    congr 1; omega
  rw [e1, e2]
  simp

theorem setCells_eq_setRow (g : Nat) (t : TypeId) (fr : Nat × Nat) : ∀ (vs : List Value) (o : Nat) (w : World) (cur : Array Value), w.heap[g]? = some (.cells cur t fr) → o + vs.length ≤ cur.size →
    w.setCells g o vs = w.setRow g (cur.toList.take o ++ vs ++ cur.toList.drop (o + vs.length)).toArray
  | [], o, w, cur, hg, _ => by
    have e : (cur.toList.take o ++ ([] : List Value) ++ cur.toList.drop (o + ([] : List Value).length)).toArray = cur := by simp
    rw [e, setRow_self w g cur t fr hg]
    rfl
  | v :: vs, o, w, cur, hg, hle => by
    have h1 := setCell_eq_setRow w g o cur t fr v hg
    have hg' : (w.setRow g (cur.setIfInBounds o v)).heap[g]? = some (.cells (cur.setIfInBounds o v) t fr) := setRow_heap w g cur _ t fr hg
    show (w.setCell ⟨g, o, none⟩ v).setCells g (o + 1) vs = _
    rw [h1, setCells_eq_setRow g t fr vs (o + 1) _ _ hg' (by simp at hle ⊢; omega), setRow_setRow]
    congr 2
    have := list_set_take cur.toList vs v o (by simpa using hle)
    simpa using this

/-- Behind one step: only the own row 'o' may have turned; the row is 'o'' now: the same, or a new one. -/
def Hop (w w' : World) (o o' : Option Nat) : Prop := w.grownBy w' o ∧ (o' = o ∨ ∃ g, w.heap.size ≤ g ∧ o' = some g)
theorem Hop.refl (w : World) (o : Option Nat) : Hop w w o o := ⟨World.grownBy.refl w o, .inl rfl⟩
theorem grownBy_trans {w w1 w2 : World} {o o1 : Option Nat} (h : w.grownBy w1 o) (k : w1.grownBy w2 o1) (ho : o1 = o ∨ ∀ g, o1 = some g → w.heap.size ≤ g) : w.grownBy w2 o :=
  ⟨k.os.trans h.os, k.tape.trans h.tape, k.output.trans h.output, Nat.le_trans h.size k.size, fun i hi hne => by
    rw [k.block i (Nat.lt_of_lt_of_le hi h.size) (fun e => by
      rcases ho with ho | ho
      · exact hne (e.trans ho)
      · have := ho i e.symm; omega), h.block i hi hne]⟩
theorem Hop.trans {w w1 w2 : World} {o o1 o2 : Option Nat} (h : Hop w w1 o o1) (k : Hop w1 w2 o1 o2) : Hop w w2 o o2 := by
  refine ⟨grownBy_trans h.1 k.1 ?_, ?_⟩
  · rcases h.2 with h2 | ⟨g, hg, h2⟩
    · exact .inl h2
    · exact .inr fun k hk => by rw [h2] at hk; cases hk; exact hg
  · rcases k.2 with k2 | ⟨g, hg, k2⟩
    · rcases h.2 with h2 | ⟨g', hg', h2⟩
      · exact .inl (k2.trans h2)
      · exact .inr ⟨g', hg', k2.trans h2⟩
    · exact .inr ⟨g, Nat.le_trans h.1.size hg, k2⟩
theorem Hop.grow {w w1 w2 : World} {o o1 : Option Nat} (h : Hop w w1 o o1) (k : Below w1.heap.size w1 w2) : Hop w w2 o o1 :=
  h.trans ⟨⟨k.os, k.tape, k.output, k.size, fun i hi _ => k.block i hi⟩, .inl rfl⟩
theorem grownBy_below {w w1 : World} (k : Below w.heap.size w w1) (o : Option Nat) : w.grownBy w1 o := ⟨k.os, k.tape, k.output, k.size, fun i hi _ => k.block i hi⟩
theorem own_below {w w1 : World} {base : Nat} {e : TypeId} {size : Nat} {v : Value} {n : Nat} {xs : List Value} (h : w.ownsRow base e size v n xs) (k : Below w.heap.size w w1) : w1.ownsRow base e size v n xs :=
  h.kept (grownBy_below k none) (by cases v.ownBlock <;> simp)
/-- Below a base that the own row lies behind, nothing has turned. -/
theorem Hop.below {w w' : World} {o o' : Option Nat} {B : Nat} (h : Hop w w' o o') (hB : B ≤ w.heap.size) (ho : ∀ k, o = some k → B ≤ k) : Below B w w' :=
  (Below.refl B w).grown h.1 hB ho
/-- The own row is not a block of another type. -/
theorem own_ne {w : World} {base : Nat} {e : TypeId} {size : Nat} {v : Value} {n : Nat} {xs : List Value} (h : w.ownsRow base e size v n xs) {L : Nat} {C : Array Value} {t : TypeId} {fr : Nat × Nat}
    (hL : w.heap[L]? = some (.cells C t fr)) (ht : t ≠ e) : some L ≠ v.ownBlock := by
  intro e1
  rcases h.2 with ⟨rfl, _⟩ | ⟨g, cap, cur, rfl, _, hg, _⟩
  · simp [Value.ownBlock] at e1
  · simp [Value.ownBlock] at e1
    subst e1
    rw [hL] at hg
    simp at hg
    exact ht hg.2.1

section
variable {P : Program}
theorem run_append_row (w : World) (t tx ty e : TypeId) (base : Nat) (i : TypeInfo) (z : Value) (size bytes : Nat) (ht : P.underlying t = some (.slice e)) (hi : P.info? e = some i) (hz : i.zero = some z)
    (hsize : i.size = size) (hby : i.bytes = bytes) (hzs : z.cells.size = size)
    (v : Value) (n : Nat) (xs : List Value) (hown : w.ownsRow base e size v n xs) (x : Value) (m : Nat) (news : List Value) (hs : Src P size tx x m news w)
    (h63 : n + m ≤ maxLen) (hbytes : (n + m) * bytes ≤ 140737488355328) (hbase : base ≤ w.heap.size) :
    ∃ v' w', (Builtin.append_ #[t, tx] ty #[v, x]).run P w = .ok v' w' ∧ w'.ownsRow base e size v' (n + m) (xs ++ news) ∧ Hop w w' v.ownBlock v'.ownBlock := by
  subst hsize hby
  have hmax : ((n + m : Nat) : Int) ≤ 9223372036854775807 := by unfold maxLen at h63; omega
  have hlen : (xs ++ news).length = (n + m) * i.size := by rw [List.length_append, hown.1, hs.newsLen, Nat.add_mul]
  -- a new row
  have new : ∀ (old : Nat) (o : Option Nat), old < n + m →
      (w.drew.alloc (.cells ((xs ++ news).toArray ++ Builtin.zeroCells z.cells (grownCap w (n + m) old e - (n + m))) e)).ownsRow base e i.size (.slice (some ⟨w.heap.size, 0, none⟩) (n + m) (grownCap w (n + m) old e)) (n + m) (xs ++ news) ∧
      Hop w (w.drew.alloc (.cells ((xs ++ news).toArray ++ Builtin.zeroCells z.cells (grownCap w (n + m) old e - (n + m))) e)) o (some w.heap.size) := by
    intro old o ho
    refine ⟨⟨hlen, .inr ⟨w.heap.size, _, _, rfl, hbase, heap_alloc_new w.drew _, grownCap_ge w (n + m) old e, grownCap_le_maxLen w (n + m) old e h63, ?_, ?_⟩⟩, ⟨rfl, rfl, rfl, by simp, fun k hk _ => heap_alloc_old w.drew _ hk⟩, .inr ⟨_, Nat.le_refl _, rfl⟩⟩
    · have := grownCap_ge w (n + m) old e
      simp only [Array.size_append, List.size_toArray, size_zeroCells, hzs, hlen, ← Nat.add_mul]
      congr 1
      omega
    · simp only [Array.toList_append]
      rw [← hlen]
      exact List.take_left
  have hfit : ∀ old, old < n + m → Builtin.nextslicecap (n + m) old * i.bytes ≤ 281474976710656 := fun old ho => growslice_fits ho hbytes
  rcases hown.2 with ⟨rfl, rfl⟩ | ⟨g, cap, cur, rfl, hbg, hg, hnc, hcm, hcs, htake⟩
  · have hx : xs = [] := List.eq_nil_of_length_eq_zero (by simpa using hown.1)
    subst hx
    by_cases hm : m = 0
    · subst hm
      have hn : news = [] := List.eq_nil_of_length_eq_zero (by simpa using hs.newsLen)
      subst hn
      exact ⟨_, _, run_append_nothing w t tx ty e i ht hi none 0 0 (Nat.le_refl _) x hs, World.ownsRow_nil w base e i.size, Hop.refl _ _⟩
    · have hr := run_append_grow_src (P := P) w t tx ty e i z ht hi hz none 0 0 [] (run_firstCells_none w.drew i.size 0 0 0) x m news hs (by omega) hmax (by have := hfit 0 (by omega); simpa using this)
      obtain ⟨h1, h2⟩ := new 0 (Value.ownBlock (.slice none 0 0)) (by omega)
      exact ⟨_, _, hr, h1, h2⟩
  · by_cases hroom : n + m ≤ cap
    · have hspan : n * i.size + news.length ≤ cur.size := by
        rw [hs.newsLen, hcs, ← Nat.add_mul]; exact Nat.mul_le_mul_right _ hroom
      have hcell : ∀ j, w.cell? ⟨g, j, none⟩ = cur[j]? := fun j => cell_of_row w g j cur e (0, 0) hg
      have hr := run_append_room_src (P := P) w t tx ty e i ht hi g 0 n cap x m news hs hroom (fun j hj => by rw [hcell]; simp; omega) (fun j hj => by simp [World.frozen?, hg])
      rw [Nat.zero_add, setCells_eq_setRow g e (0, 0) news (n * i.size) w cur hg hspan] at hr
      refine ⟨_, _, hr, ⟨hlen, .inr ⟨g, cap, _, rfl, hbg, setRow_heap w g cur _ e (0, 0) hg, hroom, hcm, ?_, ?_⟩⟩, ⟨rfl, rfl, rfl, by simp, fun k _ hne => setRow_other w g k _ (fun hh => hne (by rw [hh]; rfl))⟩, .inl rfl⟩
      · simp only [List.size_toArray, List.length_append, List.length_take, List.length_drop, Array.length_toList]
        rw [Nat.min_eq_left (by omega)]
        rw [← hcs]; omega
      · rw [htake]
        show (xs ++ news ++ _).take _ = _
        rw [← hlen]
        exact List.take_left
    · have hold : (Builtin.firstCells i.size n (.slice (some ⟨g, 0, none⟩) n cap)).run P w.drew = .ok xs.toArray w.drew := by
        refine run_firstCells_some (P := P) w.drew i.size n ⟨g, 0, none⟩ n cap xs hown.1 fun j u hj => ?_
        have := hown.cells (g := g) rfl j u hj
        simpa using this
      have hr := run_append_grow_src (P := P) w t tx ty e i z ht hi hz (some ⟨g, 0, none⟩) n cap xs hold x m news hs (by omega) hmax (hfit cap (by omega))
      obtain ⟨h1, h2⟩ := new cap (Value.ownBlock (.slice (some ⟨g, 0, none⟩) n cap)) (by omega)
      exact ⟨_, _, hr, h1, h2⟩

/-- At the list of a plain region's operations. -/
theorem wpList_append_row {w : World} {ops : Array Oper} {rest : List Oper} {o : Oper} {a : Act} {Q : Exit → Act → World → Prop} (hgd : o.guard = none) (s x : Operand) (t tx : TypeId)
    (ho : o.op = .call { callee := .builtin .append, args := #[s, x], argTypes := #[t, tx] })
    (base : Nat) (e : TypeId) (i : TypeInfo) (z : Value) (size bytes : Nat) (ht : P.underlying t = some (.slice e)) (hi : P.info? e = some i) (hz : i.zero = some z)
    (hsize : i.size = size) (hby : i.bytes = bytes) (hzs : z.cells.size = size)
    (v : Value) (n : Nat) (xs : List Value) (hv : a.eval s = v) (hown : w.ownsRow base e size v n xs)
    (X : Value) (m : Nat) (news : List Value) (hX : a.eval x = X)
    (h : ∀ v' w', w'.ownsRow base e size v' (n + m) (xs ++ news) → Hop w w' v.ownBlock v'.ownBlock → wpList P ops Q rest (a.put o.dst v') w')
    (hs : Src P size tx X m news w) (h63 : n + m ≤ maxLen) (hbytes : (n + m) * bytes ≤ 140737488355328) (hbase : base ≤ w.heap.size) : wpList P ops Q (o :: rest) a w :=
  wpList_plain hgd fun _ hK => by
    obtain ⟨v', w', hr, h2, h3⟩ := run_append_row w t tx o.type e base i z size bytes ht hi hz hsize hby hzs v n xs hown X m news hs h63 hbytes hbase
    unfold Oper.wp execOp
    simp only [ho, resolve, invoke, builtin, Sem.run_bind, Sem.run_pure, Result.andThen_ok, List.map_toArray, List.map_cons, List.map_nil, hv, hX, hr]
    exact hK _ _ (h v' w' h2 h3)
/-- At a step of a region that draws its order. -/
theorem step_append_row {w : World} {ops : Array Oper} {o : Oper} {a : Act} {K : Act → World → Prop} {Q : Exit → Act → World → Prop} {E : Prop} (hgd : o.guard = none) (s x : Operand) (t tx : TypeId)
    (ho : o.op = .call { callee := .builtin .append, args := #[s, x], argTypes := #[t, tx] })
    (base : Nat) (e : TypeId) (i : TypeInfo) (z : Value) (size bytes : Nat) (ht : P.underlying t = some (.slice e)) (hi : P.info? e = some i) (hz : i.zero = some z)
    (hsize : i.size = size) (hby : i.bytes = bytes) (hzs : z.cells.size = size)
    (v : Value) (n : Nat) (xs : List Value) (hv : a.eval s = v) (hown : w.ownsRow base e size v n xs)
    (X : Value) (m : Nat) (news : List Value) (hX : a.eval x = X)
    (h : ∀ v' w', w'.ownsRow base e size v' (n + m) (xs ++ news) → Hop w w' v.ownBlock v'.ownBlock → K (a.put o.dst v') w')
    (hs : Src P size tx X m news w) (h63 : n + m ≤ maxLen) (hbytes : (n + m) * bytes ≤ 140737488355328) (hbase : base ≤ w.heap.size) :
    if Region.wanted o (yielded ops a.tmps) = true then Oper.wp P o a w K Q else E := by
  have hw : Region.wanted o (yielded ops a.tmps) = true := by simp [Region.wanted, hgd]
  rw [if_pos hw]
  obtain ⟨v', w', hr, h2, h3⟩ := run_append_row w t tx o.type e base i z size bytes ht hi hz hsize hby hzs v n xs hown X m news hs h63 hbytes hbase
  unfold Oper.wp execOp
  simp only [ho, resolve, invoke, builtin, Sem.run_bind, Sem.run_pure, Result.andThen_ok, List.map_toArray, List.map_cons, List.map_nil, hv, hX, hr]
  exact h v' w' h2 h3
end

/-- A row of bytes of the call's own. -/
def cb (l : List UInt8) : List Value := l.map fun b => Value.int .u8 (b.toNat : Int)
theorem cb_length (l : List UInt8) : (cb l).length = l.length := List.length_map ..
theorem cb_append (x y : List UInt8) : cb (x ++ y) = cb x ++ cb y := List.map_append ..
def BRow (w : World) (base : Nat) (e : TypeId) (v : Value) (l : List UInt8) : Prop := w.ownsRow base e 1 v l.length (cb l)
theorem BRow.grow {w w1 : World} {base : Nat} {e : TypeId} {v : Value} {l : List UInt8} (h : BRow w base e v l) (k : Below w.heap.size w w1) : BRow w1 base e v l := own_below h k
theorem BRow.app {w : World} {base : Nat} {e : TypeId} {v : Value} {l m : List UInt8} {n : Nat} (h : w.ownsRow base e 1 v n (cb l ++ cb m)) (hn : n = l.length + m.length) : BRow w base e v (l ++ m) := by
  unfold BRow
  rw [List.length_append, cb_append, ← hn]
  exact h
theorem BRow.nil (w : World) (base : Nat) (e : TypeId) : BRow w base e (.slice none 0 0) [] := World.ownsRow_nil w base e 1
theorem byteCells_bs (l : List UInt8) : byteCells (bs l) = cb l := rfl
theorem BRow.string {P : Program} {w : World} {base : Nat} {v : Value} {l : List UInt8} (src dst e : TypeId) (hs : P.underlying src = some (.slice e)) (he : P.underlying e = some (.int .u8)) (hd : P.underlying dst = some .string)
    (h : BRow w base e v l) : (convert src dst v).run P w = .ok (.string (bs l)) w := run_string_of_row w src dst e base v l hs he hd h
theorem src_string {P : Program} {w : World} {tx : TypeId} (hk : P.underlying tx = some .string) (l : List UInt8) : Src P 1 tx (.string (bs l)) l.length (cb l) w := by
  have := Src.ofString (P := P) w hk (bs l)
  rwa [bs_size] at this
/-- The new block of a literal. -/
theorem src_block {P : Program} {w : World} {tx e' : TypeId} (hk : P.underlying tx = some (.slice e')) (size n c : Nat) (B : Nat) (cs : Array Value) (t : TypeId) (fr : Nat × Nat) (hb : w.heap[B]? = some (.cells cs t fr))
    (hl : cs.size = n * size) (h1 : ∀ u ∈ cs.toList, u.oneCell' = true) : Src P size tx (.slice (some ⟨B, 0, none⟩) n c) n cs.toList w :=
  Src.ofSlice w hk _ n c cs.toList (by simpa using hl) (World.news_of_block hb) h1
end Go.Proofs.YtpjafbinlklojaaDoor

/- Rows of ints that are read, and rows of the call's own. -/
namespace Go.Proofs.YtpjafbinlklojaaDoor
open Go.RowKit

def I64 (x : Int) : Prop := -9223372036854775808 ≤ x ∧ x ≤ 9223372036854775807
/-- The cells of a list of numbers. -/
def ic (xs : List Int) : List Value := xs.map (Value.int .i64)
theorem ic_length (xs : List Int) : (ic xs).length = xs.length := List.length_map ..
theorem ic_append (xs ys : List Int) : ic (xs ++ ys) = ic xs ++ ic ys := List.map_append ..
theorem ic_get {xs : List Int} {j : Nat} {x : Int} (h : xs[j]? = some x) : (ic xs)[j]? = some (.int .i64 x) := by simp [ic, h]
theorem infoInt : (Tryd.prog.info? 3).map (fun i => (i.zero, i.size, i.bytes)) = some (some (.int .i64 0), 1, 8) := by kernel_rfl
/-- A row that reads as these numbers. -/
def Ints (w : World) (A : Option Addr) (c : Nat) (xs : List Int) : Prop :=
  xs.length ≤ c ∧ (0 < xs.length → ∃ g o, A = some ⟨g, o, none⟩ ∧ g < w.heap.size ∧ ∀ (j : Nat) x, xs[j]? = some x → w.cell? ⟨g, o + j, none⟩ = some (.int .i64 x))
theorem Ints.grow {w w' : World} {A : Option Addr} {c : Nat} {xs : List Int} (h : Ints w A c xs) (k : Below w.heap.size w w') : Ints w' A c xs :=
  ⟨h.1, fun hp => by
    obtain ⟨g, o, e, hg, hc⟩ := h.2 hp
    exact ⟨g, o, e, Nat.lt_of_lt_of_le hg k.size, fun j x hx => (World.cell?_of_block (k.block g hg)).trans (hc j x hx)⟩⟩
theorem Ints.nil (w : World) (A : Option Addr) (c : Nat) : Ints w A c [] := ⟨Nat.zero_le _, fun h => by simp at h⟩
/-- The place at i. -/
theorem Ints.at_ {w : World} {A : Option Addr} {c : Nat} {xs : List Int} (h : Ints w A c xs) {i : Nat} (hi : i < xs.length) : ∃ g o x, A = some ⟨g, o, none⟩ ∧ g < w.heap.size ∧ xs[i]? = some x ∧ w.cell? ⟨g, o + i, none⟩ = some (.int .i64 x) := by
  obtain ⟨g, o, e, hg, hc⟩ := h.2 (by omega)
  exact ⟨g, o, _, e, hg, List.getElem?_eq_getElem hi, hc i _ (List.getElem?_eq_getElem hi)⟩
def IRow (w : World) (base : Nat) (v : Value) (xs : List Int) : Prop := w.ownsRow base 3 1 v xs.length (ic xs)
theorem IRow.grow {w w1 : World} {base : Nat} {v : Value} {xs : List Int} (h : IRow w base v xs) (k : Below w.heap.size w w1) : IRow w1 base v xs := own_below h k
theorem IRow.nil (w : World) (base : Nat) : IRow w base (.slice none 0 0) [] := World.ownsRow_nil w base 3 1
theorem IRow.app {w : World} {base : Nat} {v : Value} {xs ys : List Int} {n : Nat} (h : w.ownsRow base 3 1 v n (ic xs ++ ic ys)) (hn : n = xs.length + ys.length) : IRow w base v (xs ++ ys) := by
  unfold IRow
  rw [List.length_append, ic_append, ← hn]
  exact h
theorem IRow.reads {w : World} {base : Nat} {v : Value} {xs : List Int} (h : IRow w base v xs) : ∃ A c, v = .slice A xs.length c ∧ Ints w A c xs := by
  have hc := fun (g : Nat) (hg : v.ownBlock = some g) => World.ownsRow.cells h hg
  rcases h.2 with ⟨rfl, hn⟩ | ⟨g, cap, cur, rfl, h1, h2, h3, _⟩
  · obtain rfl : xs = [] := List.eq_nil_of_length_eq_zero hn
    exact ⟨none, 0, rfl, Ints.nil _ _ _⟩
  · refine ⟨_, cap, rfl, h3, fun _ => ⟨g, 0, rfl, (Array.getElem?_eq_some_iff.1 h2).1, fun j x hx => ?_⟩⟩
    have := hc g rfl j _ (ic_get hx)
    have e : Addr.add ⟨g, 0, none⟩ j = ⟨g, j, none⟩ := by unfold Addr.add; split <;> simp_all
    rw [Nat.zero_add]
    rwa [e] at this
theorem IRow.readsB {w : World} {base : Nat} {v : Value} {xs : List Int} (h : IRow w base v xs) : ∃ A c, v = .slice A xs.length c ∧ Ints w A c xs ∧ ∀ g o, A = some ⟨g, o, none⟩ → base ≤ g := by
  have hb := fun k hk => (World.ownsRow.lt h k hk).1
  obtain ⟨A, c, rfl, hi⟩ := h.reads
  exact ⟨A, c, rfl, hi, fun g o e => by subst e; exact hb g rfl⟩
/-- A row of the call's own lies behind its base: so the blocks ahead of it are as they were. -/
theorem IRow.base_le {w : World} {base : Nat} {v : Value} {xs : List Int} (h : IRow w base v xs) {k : Nat} (hk : v.ownBlock = some k) : base ≤ k := (World.ownsRow.lt h k hk).1
end Go.Proofs.YtpjafbinlklojaaDoor

/- A call that returns returns one value. No program. -/
namespace Go.Proofs.YtpjafbinlklojaaDoor
open Go.RowKit

/-- A caller behind which nothing goes on. -/
def deadEnd (P : Program) : Frame := { fn := P.funcs.size, tmps := #[], todo := [], defers := [], mode := .returning, kind := .report }
theorem step_deadEnd (P : Program) (w : World) : ∃ o, step P (lone (deadEnd P) [] w) = .ended o w := by
  refine ⟨_, step_lone_ended (o := .stuck "report: Error or String returned no string" "") ?_⟩
  simp [stepG, deadEnd, unwind, doReturn]
theorem runN_ended {P : Program} {m : Machine} {o : Outcome} {w : World} (h : step P m = .ended o w) (d : Nat) (m' : Machine) (h2 : runN P (d + 1) m = .next m') : False := by
  simp [runN, h] at h2
theorem Calls.unique {P : Program} {f : FuncId} {args : Array Value} {w : World} {v1 v2 : Value}
    (h1 : Calls P f args w fun e _ => e = .returned v1) (h2 : Calls P f args w fun e _ => e = .returned v2) : v1 = v2 := by
  obtain ⟨e1, w1, fr1, rfl, c1, _, l1⟩ := h1 [deadEnd P]
  obtain ⟨e2, w2, fr2, rfl, c2, _, l2⟩ := h2 [deadEnd P]
  obtain ⟨n1, r1⟩ := c1
  obtain ⟨n2, r2⟩ := c2
  have key : ∀ {n1 n2 : Nat} {fr1 fr2 : Frame} {w1 w2 : World} {v1 v2 : Value}, runN P n1 (lone (Frame.enter P f args .normal) [deadEnd P] w) = .next (lone fr1 [deadEnd P] w1) →
      runN P n2 (lone (Frame.enter P f args .normal) [deadEnd P] w) = .next (lone fr2 [deadEnd P] w2) → fr1.leaving P w1 (.returned v1) → fr2.leaving P w2 (.returned v2) → n1 ≤ n2 → v1 = v2 := by
    intro n1 n2 fr1 fr2 w1 w2 v1 v2 r1 r2 l1 l2 hle
    obtain ⟨d, rfl⟩ := Nat.exists_eq_add_of_le hle
    rw [runN_add, r1] at r2
    have hs := step_leave_returned (c := deadEnd P) (cs := []) l1
    match d, r2 with
    | 0, r2 =>
      simp [runN, lone] at r2
      obtain ⟨rw2, rf⟩ := r2
      subst rw2 rf
      obtain ⟨_, _, _, fn1, hf1, hr1⟩ := l1
      obtain ⟨_, _, _, fn2, hf2, hr2⟩ := l2
      rw [hf1] at hf2
      cases hf2
      rw [hr1] at hr2
      simp at hr2
      exact hr2
    | 1, r2 =>
      have r3 : runN P (0 + 1) (lone fr1 [deadEnd P] w1) = .next (lone fr2 [deadEnd P] w2) := r2
      simp only [runN, hs, Stepped.next.injEq] at r3
      have r4 := congrArg (fun m : Machine => m.gs) r3
      simp [lone] at r4
    | d + 2, r2 =>
      have hf : (deadEnd P).finish v1 = deadEnd P := rfl
      rw [hf] at hs
      obtain ⟨o, ho⟩ := step_deadEnd P w1
      have r3 : runN P ((d + 1) + 1) (lone fr1 [deadEnd P] w1) = .next (lone fr2 [deadEnd P] w2) := r2
      simp only [runN, hs] at r3
      have r2 : runN P (d + 1) (lone (deadEnd P) [] w1) = .next (lone fr2 [deadEnd P] w2) := r3
      exact (runN_ended ho d _ r2).elim
  rcases Nat.le_total n1 n2 with h | h
  · exact key r1 r2 l1 l2 h
  · exact (key r2 r1 l2 l1 h).symm
end Go.Proofs.YtpjafbinlklojaaDoor

/- Regions that draw their order: operations that only read, calls that may make memory, and operations that lay a fresh block (alloc, buildSlice), in whatever order; then a tail in one forced order. One walk in the order of the text serves every order. No program. -/
namespace Go.Proofs.YtpjafbinlklojaaDoor
open Go.RowKit

/-- What is known of blocks that the region's own operations have laid: by slot. -/
abbrev Env := Nat → Nat → Obj → Prop
def Env.upd (E : Env) (d : Option Nat) (B : Nat) (o : Obj) : Env := fun s C u => E s C u ∨ (d = some s ∧ C = B ∧ u = o)
def Env.only (ops : Array Oper) (o : Oper) (E : Env) : Env := fun s C u => (o.looksAt ops).contains s = true ∧ E s C u
def Env.none : Env := fun _ _ _ => False

/-- All that stood at the region's head is as it was, and the blocks that are known hold what is known. -/
structure Cl (w0 : World) (E : Env) (x : World) : Prop where
  below : Below w0.heap.size w0 x
  fact : ∀ s B o, E s B o → w0.heap.size ≤ B ∧ x.heap[B]? = some o

section
variable {P : Program} {ops : Array Oper} {md : Region.Mode} {Q : Exit → Act → World → Prop} {w0 x y : World} {E F : Env}

theorem Cl.grow (h : Cl w0 E x) (k : Below x.heap.size x y) : Cl w0 E y :=
  ⟨h.below.trans (k.mono h.below.size), fun s B o e => by
    obtain ⟨h1, h2⟩ := h.fact s B o e
    exact ⟨h1, (k.block B (Array.getElem?_eq_some_iff.1 h2).1).trans h2⟩⟩
theorem Cl.sub (h : Cl w0 E x) (hs : ∀ s B o, F s B o → E s B o) : Cl w0 F x := ⟨h.below, fun s B o e => h.fact s B o (hs s B o e)⟩
theorem Cl.only (h : Cl w0 E x) (o : Oper) : Cl w0 (E.only ops o) x := h.sub fun _ _ _ e => e.2
theorem Cl.upd (h : Cl w0 E x) (d : Option Nat) (obj : Obj) : Cl w0 (E.upd d x.heap.size obj) (x.alloc obj) := by
  have hg := h.grow (y := x.alloc obj) ((Below.refl _ _).alloc (Nat.le_refl _) _)
  refine ⟨hg.below, fun s B o e => ?_⟩
  rcases e with e | ⟨_, rfl, rfl⟩
  · exact hg.fact s B o e
  · exact ⟨h.below.size, heap_alloc_new x _⟩

/-- The value of an operation that lays block number B. -/
def blkVal (o : Oper) (B : Nat) : Value := match o.op with | .buildSlice _ n _ => .slice (some ⟨B, 0, none⟩) n n | _ => .pointer (some ⟨B, 0, none⟩)
/-- What an operation comes to: one value; or a fresh block that holds this. -/
abbrev Kind := Value ⊕ Obj
def Kind.res (o : Oper) (k : Kind) (B : Nat) : Value := match k with | .inl v => v | .inr _ => blkVal o B
def Kind.env (o : Oper) (k : Kind) (B : Nat) (E : Env) : Env := match k with | .inl _ => E | .inr obj => E.upd o.dst B obj

def Runs (P : Program) (ops : Array Oper) (w0 : World) (F : Env) (o : Oper) (a : Act) : Kind → Prop
  | .inl v => (Region.wanted o (yielded ops a.tmps) = true ∧ ∀ x, Cl w0 F x → o.quietAt P a (fun y => Below x.heap.size x y) x v) ∨ (Region.wanted o (yielded ops a.tmps) = false ∧ v = undef)
  | .inr obj => Region.wanted o (yielded ops a.tmps) = true ∧ ∀ x, Cl w0 F x → (execOp a.eval o).run P x = .ok (.value (blkVal o x.heap.size)) (x.alloc obj)

theorem alloc_ne (x : World) (o : Obj) : x.alloc o ≠ x := fun h => by
  have := congrArg (fun w : World => w.heap.size) h
  simp at this
theorem alloc_inj {x : World} {o1 o2 : Obj} (h : x.alloc o1 = x.alloc o2) : o1 = o2 := by
  have h1 := heap_alloc_new x o1
  rw [h, heap_alloc_new x o2] at h1
  exact (Option.some.inj h1).symm

theorem quietUpon_det {C D : World → Prop} {v u : Value} {r : Result Next} (h1 : Oper.quietUpon P C x v r) (h2 : Oper.quietUpon P D x u r) : v = u := by
  cases r with
  | ok n w' =>
    cases n <;> simp only [Oper.quietUpon] at h1 h2
    case value => rw [← h1.2, ← h2.2]
    case skip => rw [h1.2, h2.2]
    case enter f args =>
      obtain ⟨rfl, c1⟩ := h1
      exact Calls.unique (c1.mono fun _ _ h => h.1) (h2.2.mono fun _ _ h => h.1)
  | halt => simp only [Oper.quietUpon] at h1

theorem Runs.det {o : Oper} {a : Act} : ∀ {k1 k2 : Kind}, Runs P ops w0 F o a k1 → Runs P ops w0 F o a k2 → Cl w0 F x → k1 = k2
  | .inl v, .inl u, h1, h2, hx => by
    rcases h1 with ⟨w1, h1⟩ | ⟨w1, h1⟩ <;> rcases h2 with ⟨w2, h2⟩ | ⟨w2, h2⟩
    · exact congrArg _ (quietUpon_det (h1 x hx) (h2 x hx))
    · rw [w1] at w2; cases w2
    · rw [w1] at w2; cases w2
    · rw [h1, h2]
  | .inl v, .inr o2, h1, h2, hx => by
    rcases h1 with ⟨w1, h1⟩ | ⟨w1, h1⟩
    · have := h1 x hx
      unfold Oper.quietAt at this
      rw [h2.2 x hx] at this
      exact absurd this.1 (alloc_ne x o2)
    · have := h2.1; rw [w1] at this; cases this
  | .inr o1, .inl u, h1, h2, hx => by
    rcases h2 with ⟨w2, h2⟩ | ⟨w2, h2⟩
    · have := h2 x hx
      unfold Oper.quietAt at this
      rw [h1.2 x hx] at this
      exact absurd this.1 (alloc_ne x o1)
    · have := h1.1; rw [w2] at this; cases this
  | .inr o1, .inr o2, h1, h2, hx => by
    have := (h1.2 x hx).symm.trans (h2.2 x hx)
    simp only [Result.ok.injEq] at this
    exact congrArg _ (alloc_inj this.2)

theorem Runs.put {o : Oper} {a : Act} {dst : Option Tmp} {u : Value} (hs : ∀ cs b, o.op ≠ .select cs b) (h : ∀ d, dst = some d → d ∉ o.looksAt ops) (k : Kind) : Runs P ops w0 F o (a.put dst u) k ↔ Runs P ops w0 F o a k := by
  cases k <;> simp only [Runs, Oper.quietAt, execOp_put o hs a dst u h, wanted_put o a dst u h]
theorem Env.only_env {oi oj : Oper} (k : Kind) (B : Nat) (h : ∀ d, oi.dst = some d → d ∉ oj.looksAt ops) : (k.env oi B E).only ops oj = E.only ops oj := by
  cases k with
  | inl v => rfl
  | inr obj =>
    funext s C u
    apply propext
    exact ⟨fun ⟨h1, h2⟩ => ⟨h1, h2.resolve_right fun h3 => h s h3.1 (by simpa using h1)⟩, fun ⟨h1, h2⟩ => ⟨h1, .inl h2⟩⟩
theorem Kind.env_comm {oi oj : Oper} (ki kj : Kind) (Bi Bj : Nat) : ki.env oi Bi (kj.env oj Bj E) = kj.env oj Bj (ki.env oi Bi E) := by
  cases ki with
  | inl _ => rfl
  | inr obi =>
    cases kj with
    | inl _ => rfl
    | inr obj =>
      funext s C u
      apply propext
      exact ⟨fun h => by rcases h with (h | h) | h <;> simp [Kind.env, Env.upd, h], fun h => by rcases h with (h | h) | h <;> simp [Kind.env, Env.upd, h]⟩
theorem Kind.env_le (o : Oper) (k : Kind) (B : Nat) (s C : Nat) (u : Obj) (h : E s C u) : k.env o B E s C u := by
  cases k with
  | inl _ => exact h
  | inr _ => exact .inl h

theorem Runs.wpOp {i : Nat} {o : Oper} {a : Act} {k : Kind} (hi : ops[i]? = some o) (h : Runs P ops w0 (E.only ops o) o a k) (hx : Cl w0 E x) {K : Act → World → Prop}
    (hK : ∀ B y, w0.heap.size ≤ B → Cl w0 (k.env o B E) y → K (a.put o.dst (k.res o B)) y) : Go.wpOp P ops Q i K a x := by
  unfold Go.wpOp
  simp only [hi]
  cases k with
  | inl v =>
    have hK' := fun y hy => hK w0.heap.size y (Nat.le_refl _) hy
    rcases h with ⟨hw, hv⟩ | ⟨hw, rfl⟩
    · rw [if_pos hw]
      refine .inl ?_
      have h3 := hv x (hx.only o)
      unfold Oper.quietAt at h3
      unfold Oper.wp
      generalize (execOp a.eval o).run P x = r at *
      cases r with
      | ok n w' =>
        cases n <;> simp only [Oper.quietUpon] at h3 <;> simp only [Oper.upon]
        case value u => obtain ⟨rfl, rfl⟩ := h3; exact hK' _ hx
        case skip => obtain ⟨rfl, rfl⟩ := h3; exact hK' _ hx
        case enter f args =>
          obtain ⟨rfl, hc⟩ := h3
          exact hc.mono fun e w'' ⟨he, hw''⟩ => by subst he; exact hK' _ (hx.grow hw'')
      | halt => simp only [Oper.quietUpon] at h3
    · rw [if_neg (by rw [hw]; decide)]
      exact hK' x hx
  | inr obj =>
    rw [if_pos h.1]
    refine .inl ?_
    unfold Oper.wp
    rw [h.2 x (hx.only o)]
    exact hK x.heap.size _ hx.below.size (hx.upd o.dst obj)

/-- An operation that asks nothing of the world. -/
def lateB (o : Oper) : Bool := match o.op with | .extract _ _ => true | .move _ => true | _ => false
theorem late_run (o : Oper) (h : lateB o = true) (ρ : Operand → Value) : (∃ v, ∀ x, (execOp ρ o).run P x = .ok (.value v) x) ∨ (∀ x, ∃ hh, (execOp ρ o).run P x = .halt hh x) := by
  unfold lateB at h
  split at h
  · rename_i t i ho
    unfold execOp
    rw [ho]
    simp only [Instr.extract]
    split
    · split
      · exact .inl ⟨_, fun x => rfl⟩
      · exact .inr fun x => ⟨_, rfl⟩
    · exact .inr fun x => ⟨_, rfl⟩
  · rename_i t ho
    refine .inl ⟨ρ t, fun x => ?_⟩
    unfold execOp; rw [ho]; rfl
  · cases h
theorem late_yields {o : Oper} {a : Act} {k : Kind} (h : lateB o = true) (hr : Runs P ops w0 F o a k) (hx : Cl w0 F x) : ∃ v, k = .inl v ∧ Yields P ops o v a := by
  cases k with
  | inl v =>
    refine ⟨v, rfl, ?_⟩
    rcases hr with ⟨hw, hv⟩ | hr
    · refine .inl ⟨hw, ?_⟩
      have := hv x hx
      unfold Oper.quietAt at this
      rcases late_run (P := P) o h a.eval with ⟨u, hu⟩ | hu
      · rw [hu x] at this
        simp only [Oper.quietUpon] at this
        rw [← this.2]
        exact hu
      · obtain ⟨hh, e⟩ := hu x
        rw [e] at this
        simp only [Oper.quietUpon] at this
    · exact .inr hr
  | inr obj =>
    have := hr.2 x hx
    rcases late_run (P := P) o h a.eval with ⟨u, hu⟩ | hu
    · rw [hu x] at this
      simp only [Result.ok.injEq] at this
      exact absurd this.2.symm (alloc_ne x obj)
    · obtain ⟨hh, e⟩ := hu x
      rw [e] at this
      cases this

/-- Whatever order is picked while operations of the head (the first n) are to come; 'g': how many there are behind the head. -/
def AO (P : Program) (md : Region.Mode) (ops : Array Oper) (Q : Exit → Act → World → Prop) (w0 : World) (n g : Nat) : Nat → Array Bool → Env → Act → Prop
  | 0, listed, E, a => ∀ w, Cl w0 E w → (∀ j ∈ Region.ready md ops listed, n ≤ j) ∧ wpAny P md ops Q g listed a w
  | f + 1, listed, E, a => ∀ w, Cl w0 E w → Region.ready md ops listed ≠ [] ∧
      (∀ j ∈ Region.ready md ops listed, j < n → ∃ o k, ops[j]? = some o ∧ Runs P ops w0 (E.only ops o) o a k ∧
        ∀ B, w0.heap.size ≤ B → AO P md ops Q w0 n g f (listed.setIfInBounds j true) (k.env o B E) (a.put o.dst (k.res o B))) ∧
      ((∃ j ∈ Region.ready md ops listed, n ≤ j) → wpAny P md ops Q (f + 1 + g) listed a w)

theorem AO.any {n g : Nat} : ∀ (f : Nat) (listed : Array Bool) (E : Env) (a : Act) (w : World), AO P md ops Q w0 n g f listed E a → Cl w0 E w → wpAny P md ops Q (f + g) listed a w
  | 0, listed, E, a, w, h, hw => by rw [Nat.zero_add]; exact (h w hw).2
  | f + 1, listed, E, a, w, h, hw => by
    obtain ⟨hne, hA, hB⟩ := h w hw
    by_cases ht : ∃ j ∈ Region.ready md ops listed, n ≤ j
    · exact hB ht
    · have e : f + 1 + g = (f + g) + 1 := by omega
      rw [e]
      refine ⟨fun h0 => absurd h0 hne, fun j hj => ?_⟩
      have hjn : j < n := Nat.lt_of_not_le fun hh => ht ⟨j, hj, hh⟩
      obtain ⟨o, k, ho, hr, hk⟩ := hA j hj hjn
      exact hr.wpOp ho hw fun B y hB hy => AO.any f _ _ _ y (hk B hB) hy

/-- What has come up has had all that it waits for. -/
def Closed (md : Region.Mode) (ops : Array Oper) (listed : Array Bool) : Prop :=
  ∀ (j : Nat) oj, ops[j]? = some oj → listed.getD j false = true → ∀ e ∈ oj.after, Region.binds md e = true → listed.getD e.on false = true
theorem getD_set_true {listed : Array Bool} {i : Nat} (h : i < listed.size) (d : Bool) : (listed.setIfInBounds i true).getD i d = true := by
  simp [Array.getD, h]
theorem getD_set_mono {listed : Array Bool} {i j : Nat} (h : listed.getD j false = true) : (listed.setIfInBounds i true).getD j false = true := by
  by_cases e : i = j
  · subst e
    by_cases hs : i < listed.size
    · exact getD_set_true hs false
    · rw [Array.setIfInBounds_eq_of_size_le (by omega)]; exact h
  · rw [getD_set_ne false e]; exact h
theorem Closed.set {listed : Array Bool} {i : Nat} (h : Closed md ops listed) (hr : i ∈ Region.ready md ops listed) : Closed md ops (listed.setIfInBounds i true) := by
  intro j oj hoj hl e he hb
  obtain ⟨_, o, ho, hall⟩ := mem_ready.1 hr
  by_cases eij : i = j
  · subst eij
    rw [hoj] at ho
    cases ho
    exact getD_set_mono (hall e he hb)
  · rw [getD_set_ne false eij] at hl
    exact getD_set_mono (h j oj hoj hl e he hb)
theorem Closed.none (n : Nat) : Closed md ops (Array.replicate n false) := by
  intro j oj _ hl
  exfalso
  simp [Array.getD] at hl
/-- t waits for i, itself or through others. -/
def waitsT (md : Region.Mode) (ops : Array Oper) : Nat → Nat → Nat → Bool
  | 0, t, i => Region.waitsFor md ops t i
  | f + 1, t, i => Region.waitsFor md ops t i || (match ops[t]? with | some ot => ot.after.any fun e => Region.binds md e && waitsT md ops f e.on i | none => false)
theorem waitsT_listed {listed : Array Bool} (hc : Closed md ops listed) {i : Nat} : ∀ (f t : Nat), waitsT md ops f t i = true → (∀ ot, ops[t]? = some ot → ∀ e ∈ ot.after, Region.binds md e = true → listed.getD e.on false = true) → listed.getD i false = true
  | 0, t, h, ha => by
    obtain ⟨ot, hot, e, he, hb, hon⟩ := Region.waitsFor_spec h
    rw [← hon]; exact ha ot hot e he hb
  | f + 1, t, h, ha => by
    unfold waitsT at h
    rw [Bool.or_eq_true] at h
    rcases h with h | h
    · obtain ⟨ot, hot, e, he, hb, hon⟩ := Region.waitsFor_spec h
      rw [← hon]; exact ha ot hot e he hb
    · split at h
      · rename_i ot hot
        obtain ⟨e, he, hb⟩ := Array.any_eq_true'.1 h
        rw [Bool.and_eq_true] at hb
        have hl := ha ot hot e he hb.1
        exact waitsT_listed hc f e.on hb.2 fun oj hoj e' he' hb' => hc e.on oj hoj hl e' he' hb'
      · cases h

/-- An operation of the head that may come up may be taken first. -/
theorem AO.first {n g i : Nat} {oi : Oper} {ki : Kind} (hi : ops[i]? = some oi) (hin : i < n) (hsel : ∀ (j : Nat) (o : Oper) cs b, ops[j]? = some o → o.op ≠ .select cs b)
    (hQ : ∀ c a v w, Q (.panic c) (a.put oi.dst v) w → Q (.panic c) a w)
    (hlate : ∀ (t : Nat) (ot : Oper), n ≤ t → ops[t]? = some ot → (∃ f, waitsT md ops f t i = true) ∨ lateB oi = true) (f : Nat) :
    ∀ (listed : Array Bool) (E : Env) (a : Act), Closed md ops listed →
      (∀ j oj, ops[j]? = some oj → j ≠ i → listed.getD j true = false → (∀ e ∈ oj.after, Region.binds md e = true → e.on ≠ i) → oi.apart ops oj = true) →
      i ∈ Region.ready md ops listed → Runs P ops w0 (E.only ops oi) oi a ki →
      (∀ B, w0.heap.size ≤ B → AO P md ops Q w0 n g f (listed.setIfInBounds i true) (ki.env oi B E) (a.put oi.dst (ki.res oi B))) → AO P md ops Q w0 n g (f + 1) listed E a := by
  -- at a tail's operation that comes up while this one is to come: this one asks nothing of the world
  have tail : ∀ (f : Nat) (listed : Array Bool) (E : Env) (a : Act) (w : World), Closed md ops listed → Cl w0 E w →
      (∀ j oj, ops[j]? = some oj → j ≠ i → listed.getD j true = false → (∀ e ∈ oj.after, Region.binds md e = true → e.on ≠ i) → oi.apart ops oj = true) →
      i ∈ Region.ready md ops listed → Runs P ops w0 (E.only ops oi) oi a ki →
      (∀ B, w0.heap.size ≤ B → AO P md ops Q w0 n g f (listed.setIfInBounds i true) (ki.env oi B E) (a.put oi.dst (ki.res oi B))) →
      (∃ j ∈ Region.ready md ops listed, n ≤ j) → wpAny P md ops Q (f + 1 + g) listed a w := by
    intro f listed E a w hcl hw hfree hr hy H ht
    obtain ⟨t, htr, htn⟩ := ht
    obtain ⟨_, ot, hot, hall⟩ := mem_ready.1 htr
    have hla : lateB oi = true := by
      rcases hlate t ot htn hot with ⟨f, hf⟩ | h
      · have h1 := waitsT_listed hcl f t hf fun ot' hot' => by
          rw [hot] at hot'; cases hot'; exact hall
        rw [getD_both (mem_ready.1 hr).1] at h1
        cases h1
      · exact h
    obtain ⟨v, rfl, hyl⟩ := late_yields hla hy (hw.only oi)
    have h1 := AO.any f _ _ _ w (H w0.heap.size (Nat.le_refl _)) hw
    have e : f + 1 + g = (f + g) + 1 := by omega
    rw [e]
    exact wpAny_first hi hsel (fun c a w => hQ c a v w) (f + g) listed a w hfree hr hyl h1
  induction f with
  | zero =>
    intro listed E a hcl hfree hr hy H w hw
    refine ⟨fun h => (by rw [h] at hr; cases hr), fun j hj hjn => ?_, tail 0 listed E a w hcl hw hfree hr hy H⟩
    by_cases hji : j = i
    · subst hji
      exact ⟨oi, ki, hi, hy, H⟩
    · -- no other operation of the head is left
      exfalso
      have hx : ∃ B w', w0.heap.size ≤ B ∧ Cl w0 (ki.env oi B E) w' := by
        cases ki with
        | inl v => exact ⟨w0.heap.size, w, Nat.le_refl _, hw⟩
        | inr obj => exact ⟨w.heap.size, _, hw.below.size, hw.upd oi.dst obj⟩
      obtain ⟨B, w', hB, hw'⟩ := hx
      have := (H B hB w' hw').1 j (ready_mono hj hji)
      omega
  | succ f ih =>
    intro listed E a hcl0 hfree hr hy H w hw
    refine ⟨fun h => (by rw [h] at hr; cases hr), fun j hj hjn => ?_, tail (f + 1) listed E a w hcl0 hw hfree hr hy H⟩
    by_cases hji : j = i
    · subst hji
      exact ⟨oi, ki, hi, hy, H⟩
    · have hx : ∃ B w', w0.heap.size ≤ B ∧ Cl w0 (ki.env oi B E) w' := by
        cases ki with
        | inl v => exact ⟨w0.heap.size, w, Nat.le_refl _, hw⟩
        | inr obj => exact ⟨w.heap.size, _, hw.below.size, hw.upd oi.dst obj⟩
      obtain ⟨B0, w1, hB0, hw1⟩ := hx
      obtain ⟨hjun, oj, hoj, hall⟩ := mem_ready.1 hj
      have hap : oi.apart ops oj = true := hfree j oj hoj hji hjun fun e he hb heq => by
        have h1 := hall e he hb
        rw [heq, getD_both (mem_ready.1 hr).1] at h1
        cases h1
      obtain ⟨ap1, ap2, ap3⟩ := Oper.apart_spec hap
      have hj' := ready_mono hj hji
      obtain ⟨oj', kj, hoj', hrj, _⟩ := (H B0 hB0 w1 hw1).2.1 j hj' hjn
      rw [hoj] at hoj'
      cases hoj'
      rw [Env.only_env ki B0 ap1, Runs.put (hsel j oj · · hoj) ap1] at hrj
      refine ⟨oj, kj, hoj, hrj, fun Bj hBj => ?_⟩
      refine ih (listed.setIfInBounds j true) (kj.env oj Bj E) (a.put oj.dst (kj.res oj Bj)) (hcl0.set hj) (fun k ok hk hki hkun hno => ?_) (ready_mono hr (Ne.symm hji)) ?_ fun Bi hBi => ?_
      · refine hfree k ok hk hki ?_ hno
        by_cases hjk : j = k
        · subst hjk
          exact hjun
        · rwa [getD_set_ne true hjk] at hkun
      · rw [Env.only_env kj Bj ap3, Runs.put (hsel i oi · · hi) ap3]
        exact hy
      · -- from what is known behind 'i', at any world of the class
        have big : ∀ w', Cl w0 (ki.env oi Bi E) w' → AO P md ops Q w0 n g f ((listed.setIfInBounds i true).setIfInBounds j true) (kj.env oj Bj (ki.env oi Bi E)) ((a.put oi.dst (ki.res oi Bi)).put oj.dst (kj.res oj Bj)) := by
          intro w' hw'
          obtain ⟨oj', kj', hoj', hrj', hk'⟩ := (H Bi hBi w' hw').2.1 j hj' hjn
          rw [hoj] at hoj'
          cases hoj'
          rw [Env.only_env ki Bi ap1, Runs.put (hsel j oj · · hoj) ap1] at hrj'
          have hcl : Cl w0 (E.only ops oj) w' := by
            have := hw'.only (ops := ops) oj
            rwa [Env.only_env ki Bi ap1] at this
          have hkk : kj' = kj := Runs.det hrj' hrj hcl
          subst hkk
          exact hk' Bj hBj
        have conv : AO P md ops Q w0 n g f ((listed.setIfInBounds j true).setIfInBounds i true) (ki.env oi Bi (kj.env oj Bj E)) ((a.put oj.dst (kj.res oj Bj)).put oi.dst (ki.res oi Bi)) ↔
            AO P md ops Q w0 n g f ((listed.setIfInBounds i true).setIfInBounds j true) (kj.env oj Bj (ki.env oi Bi E)) ((a.put oi.dst (ki.res oi Bi)).put oj.dst (kj.res oj Bj)) := by
          rw [Kind.env_comm ki kj Bi Bj, Array.setIfInBounds_comm _ _ (fun e => hji e), ← Act.put_comm a _ _ ap2]
        rw [conv]
        -- the statement asks for every world of the class: take that world
        have sub : ∀ w', Cl w0 (kj.env oj Bj (ki.env oi Bi E)) w' → Cl w0 (ki.env oi Bi E) w' := fun w' hw' => hw'.sub fun s C u hs => Kind.env_le oj kj Bj s C u hs
        cases f with
        | zero => exact fun w' hw' => big w' (sub w' hw') w' hw'
        | succ f => exact fun w' hw' => big w' (sub w' hw') w' hw'

/-! ### The order of the text -/
/-- The first n operations in the order of the text (each may come up then, and nobody that is to come touches what it reads or writes), then the others in one forced order; those wait for every one of the first that asks something of the world. -/
def ordHead (md : Region.Mode) (ops : Array Oper) (g : Nat) : Nat → Nat → Array Bool → Bool
  | 0, k, listed => Region.seqB md ops g k listed && (Region.ready md ops listed).all fun j => decide (k ≤ j)
  | f + 1, k, listed => (Region.ready md ops listed).contains k && Region.free md ops listed k && ordHead md ops g f (k + 1) (listed.setIfInBounds k true)
def ordLate (md : Region.Mode) (ops : Array Oper) (n : Nat) : Bool :=
  (List.range n).all fun i => (match ops[i]? with | some oi => lateB oi | none => false) || (List.range ops.size).all fun t => decide (t < n) || waitsT md ops 5 t i
def ordB (md : Region.Mode) (ops : Array Oper) (n : Nat) : Bool :=
  Region.noSelect ops && decide (n ≤ ops.size) && ordLate md ops n && ordHead md ops (ops.size - n) n 0 (Array.replicate ops.size false)
theorem ordLate_spec {n : Nat} (h : ordLate md ops n = true) {i : Nat} (hi : i < n) {oi : Oper} (hoi : ops[i]? = some oi) (t : Nat) (ot : Oper) (ht : n ≤ t) (hot : ops[t]? = some ot) :
    (∃ f, waitsT md ops f t i = true) ∨ lateB oi = true := by
  have h1 := List.all_eq_true.1 h i (List.mem_range.2 hi)
  simp only [hoi, Bool.or_eq_true] at h1
  rcases h1 with h1 | h1
  · exact .inr h1
  · have h2 := List.all_eq_true.1 h1 t (List.mem_range.2 (Array.getElem?_eq_some_iff.1 hot).1)
    simp only [Bool.or_eq_true, decide_eq_true_eq] at h2
    rcases h2 with h2 | h2
    · omega
    · exact .inl ⟨5, h2⟩

def wpLex (P : Program) (ops : Array Oper) (Q : Exit → Act → World → Prop) (w0 : World) (tail : List Oper) : List Oper → Env → Act → Prop
  | [], E, a => ∀ x, Cl w0 E x → wpList P ops Q tail a x
  | o :: rest, E, a => (∃ x, Cl w0 E x) → ∃ k, Runs P ops w0 (E.only ops o) o a k ∧ ∀ B, w0.heap.size ≤ B → wpLex P ops Q w0 tail rest (k.env o B E) (a.put o.dst (k.res o B))

theorem AO.lex {n g : Nat} {tail : List Oper} (hsel : Region.noSelect ops = true) (hQ : ∀ c a d v w, Q (.panic c) (a.put d v) w → Q (.panic c) a w) (hl : ordLate md ops n = true) (htail : ∀ j, tail[j]? = ops[n + j]?) (hg : tail.length = g) :
    ∀ (l : List Oper) (k : Nat) (listed : Array Bool) (E : Env) (a : Act), Closed md ops listed → (∀ j, j < l.length → l[j]? = ops[k + j]?) → k + l.length = n → ordHead md ops g l.length k listed = true →
    wpLex P ops Q w0 tail l E a → AO P md ops Q w0 n g l.length listed E a
  | [], k, listed, E, a, _, _, hk, hB, h => by
    have hkn : k = n := by simpa using hk
    subst hkn
    simp only [List.length_nil, ordHead, Bool.and_eq_true] at hB
    refine fun w hw => ⟨fun j hj => by simpa using List.all_eq_true.1 hB.2 j hj, ?_⟩
    subst hg
    exact wpAny_of_seq tail k listed a w htail hB.1 (h w hw)
  | o :: l, k, listed, E, a, hcl, hll, hk, hB, h => by
    simp only [List.length_cons] at hk
    simp only [List.length_cons, ordHead, Bool.and_eq_true] at hB
    have h0 : ops[k]? = some o := by simpa using (hll 0 (by simp)).symm
    by_cases hne : ∃ x, Cl w0 E x
    · obtain ⟨kd, hr, hrest⟩ := h hne
      refine AO.first h0 (by omega) (Region.noSelect_spec hsel) (fun c a v w => hQ c a o.dst v w) (fun t ot ht hot => ordLate_spec hl (by omega) h0 t ot ht hot) l.length listed E a hcl (Region.free_spec h0 hB.1.2) (by simpa using hB.1.1) hr fun B hBB => ?_
      exact AO.lex hsel hQ hl htail hg l (k + 1) _ _ _ (hcl.set (by simpa using hB.1.1)) (fun j hj => by have := hll (j + 1) (by simp; omega); simpa [Nat.add_assoc, Nat.add_comm 1 j] using this) (by omega) hB.2 (hrest B hBB)
    · exact fun w hw => absurd ⟨w, hw⟩ hne

theorem wp_region_ord {id : Nat} {a : Act} {w : World} {l : List Oper} (n : Nat) (hm : P.follows .mixedOrders = true) (hB : ordB .any l.toArray n = true)
    (hQ : ∀ c a d v w, Q (.panic c) (a.put d v) w → Q (.panic c) a w)
    (h : wpLex P l.toArray Q w.drew (l.drop n) (l.take n) Env.none a) : (Code.region id l.toArray true).wp P Q a w := by
  simp only [ordB, Bool.and_eq_true, decide_eq_true_eq] at hB
  obtain ⟨⟨⟨hsel, hn⟩, hl⟩, hh⟩ := hB
  have hn' : n ≤ l.length := by simpa using hn
  have htl : (l.take n).length = n := by simp; omega
  have hdl : (l.drop n).length = l.toArray.size - n := by simp
  have H := AO.lex (md := .any) (g := l.toArray.size - n) hsel hQ hl (fun j => by simp [List.getElem?_drop]) hdl (l.take n) 0 _ Env.none a (Closed.none _) (fun j hj => by
    have hj' : j < n := by rw [htl] at hj; exact hj
    simp [hj']) (by simpa using htl) (by rw [htl]; exact hh) h
  refine wp_region_any hm ?_
  have := AO.any _ _ _ _ w.drew H ⟨Below.refl _ _, fun s B o e => e.elim⟩
  rw [htl, show n + (l.toArray.size - n) = l.toArray.size by omega] at this
  exact this

/-! ### The moves of a walk -/
variable {tail rest : List Oper} {o : Oper} {a : Act}
/-- What stays so when memory grows. -/
def GrowsUp (R : World → Prop) : Prop := ∀ x y, R x → Below x.heap.size x y → R y
def GrE (w0 : World) (F : Env) (R : World → Prop) : Type := { x : World // Cl w0 F x ∧ R x }
@[go_sem] theorem GrE.cell {R : World → Prop} (g : GrE w0 F R) (b o : Nat) (h : b < w0.heap.size) : g.1.cell? ⟨b, o, none⟩ = w0.cell? ⟨b, o, none⟩ := g.2.1.below.cell (p := ⟨b, o, none⟩) h
@[go_sem] theorem GrE.frozen {R : World → Prop} (g : GrE w0 F R) (b o : Nat) (h : b < w0.heap.size) : g.1.frozen? ⟨b, o, none⟩ = w0.frozen? ⟨b, o, none⟩ := g.2.1.below.frozen (p := ⟨b, o, none⟩) h
theorem GrE.blk {R : World → Prop} (g : GrE w0 F R) {s B : Nat} {o : Obj} (h : F s B o) : g.1.heap[B]? = some o := (g.2.1.fact s B o h).2
theorem GrE.below {R : World → Prop} (g : GrE w0 F R) : Below w0.heap.size w0 g.1 := g.2.1.below
theorem GrE.call {R : World → Prop} (hR : GrowsUp R) {f : FuncId} {args : Array Value} {g : GrE w0 F R} {v : Value} (h : Calls P f args g.1 fun e w' => e = .returned v ∧ Below g.1.heap.size g.1 w') :
    Calls P f args g.1 fun e w' => e = .returned v ∧ ∃ k : GrE w0 F R, w' = k.1 :=
  h.mono fun _ w' ⟨he, hb⟩ => ⟨he, ⟨w', g.2.1.grow hb, hR _ _ g.2.2 hb⟩, rfl⟩
theorem GrE.same {R : World → Prop} {f : FuncId} {args : Array Value} {g : GrE w0 F R} {v : Value} (h : Calls P f args g.1 fun e w' => e = .returned v ∧ g.1 = w') :
    Calls P f args g.1 fun e w' => e = .returned v ∧ ∃ k : GrE w0 F R, w' = k.1 :=
  h.mono fun _ _ ⟨he, hb⟩ => ⟨he, g, hb.symm⟩

theorem quietUpon_mono {C D : World → Prop} {v : Value} {r : Result Next} (hCD : ∀ y, C y → D y) (h : Oper.quietUpon P C x v r) : Oper.quietUpon P D x v r := by
  cases r with
  | ok n w' =>
    cases n <;> simp only [Oper.quietUpon] at h ⊢
    case value => exact h
    case skip => exact h
    case enter f args => exact ⟨h.1, h.2.mono fun _ _ hh => ⟨hh.1, hCD _ hh.2⟩⟩
  | halt => simp only [Oper.quietUpon] at h

theorem wpLex_nil (h : ∀ x, Cl w0 E x → wpList P ops Q tail a x) : wpLex P ops Q w0 tail [] E a := h
theorem wpLex_skip (hw : Region.wanted o (yielded ops a.tmps) = false) (h : wpLex P ops Q w0 tail rest E (a.put o.dst undef)) : wpLex P ops Q w0 tail (o :: rest) E a :=
  fun _ => ⟨.inl undef, .inr ⟨hw, rfl⟩, fun _ _ => h⟩
theorem wpLex_fix (hw : Region.wanted o (yielded ops a.tmps) = true)
    (h : ∀ F : Env, Hid (∀ s B u, (o.looksAt ops).contains s = true → E s B u → F s B u) → ∀ R, GrowsUp R → Nonempty (GrE w0 F R) → ∀ K : Act → Prop, (∀ a', wpLex P ops Q w0 tail rest E a' → K a') → o.quiet P a (fun x => ∃ g : GrE w0 F R, x = g.1) K) :
    wpLex P ops Q w0 tail (o :: rest) E a := by
  rintro ⟨x0, hx0⟩
  replace h := h (E.only ops o) (fun s B u h1 h2 => ⟨h1, h2⟩)
  obtain ⟨v, hv, hk⟩ := h (fun _ => True) (fun _ _ _ _ => trivial) ⟨⟨x0, hx0.only o, trivial⟩⟩ (wpLex P ops Q w0 tail rest E) (fun _ h => h)
  refine ⟨.inl v, .inl ⟨hw, fun x hx => ?_⟩, fun _ _ => hk⟩
  have h1 := hv x ⟨⟨x, hx, trivial⟩, rfl⟩
  obtain ⟨u, hu, _⟩ := h (fun y => Below x.heap.size x y) (fun y z hy hz => hy.trans (hz.mono hy.size)) ⟨⟨x, hx, Below.refl _ _⟩⟩ (fun _ => True) (fun _ _ => trivial)
  have h2 := hu x ⟨⟨x, hx, Below.refl _ _⟩, rfl⟩
  have : v = u := quietUpon_det h1 h2
  subst this
  exact quietUpon_mono (fun y ⟨g, hg⟩ => hg ▸ g.2.2) h2
theorem wpLex_blk (hw : Region.wanted o (yielded ops a.tmps) = true) (obj : Obj) (hrun : ∀ x, Cl w0 (E.only ops o) x → (execOp a.eval o).run P x = .ok (.value (blkVal o x.heap.size)) (x.alloc obj))
    (h : ∀ B, w0.heap.size ≤ B → wpLex P ops Q w0 tail rest (E.upd o.dst B obj) (a.put o.dst (blkVal o B))) : wpLex P ops Q w0 tail (o :: rest) E a :=
  fun _ => ⟨.inr obj, ⟨hw, hrun⟩, h⟩
theorem blk_facts {w : World} {B : Nat} {cs : Array Value} {t : TypeId} (h : w.heap[B]? = some (.cells cs t (0, 0))) : (∀ j, w.cell? ⟨B, j, none⟩ = cs[j]?) ∧ (∀ j, w.frozen? ⟨B, j, none⟩ = false) :=
  ⟨fun j => cell_of_row w B j cs t (0, 0) h, fun j => by simp [World.frozen?, h]⟩
end
end Go.Proofs.YtpjafbinlklojaaDoor

/- Rows of strings, as lists of bytes. No program. -/
namespace Go.Proofs.YtpjafbinlklojaaDoor
open Go.RowKit

/-- The cells of a list of texts. -/
def sc (xs : List (List UInt8)) : List Value := xs.map fun x => Value.string (bs x)
theorem sc_length (xs : List (List UInt8)) : (sc xs).length = xs.length := List.length_map ..
theorem sc_append (xs ys : List (List UInt8)) : sc (xs ++ ys) = sc xs ++ sc ys := List.map_append ..
theorem sc_get {xs : List (List UInt8)} {j : Nat} {x : List UInt8} (h : xs[j]? = some x) : (sc xs)[j]? = some (.string (bs x)) := by simp [sc, h]
def SRow (w : World) (base : Nat) (e : TypeId) (v : Value) (xs : List (List UInt8)) : Prop := w.ownsRow base e 1 v xs.length (sc xs)
theorem SRow.grow {w w1 : World} {base : Nat} {e : TypeId} {v : Value} {xs : List (List UInt8)} (h : SRow w base e v xs) (k : Below w.heap.size w w1) : SRow w1 base e v xs := own_below h k
theorem SRow.app {w : World} {base : Nat} {e : TypeId} {v : Value} {xs ys : List (List UInt8)} {n : Nat} (h : w.ownsRow base e 1 v n (sc xs ++ sc ys)) (hn : n = xs.length + ys.length) : SRow w base e v (xs ++ ys) := by
  unfold SRow
  rw [List.length_append, sc_append, ← hn]
  exact h
theorem SRow.nil (w : World) (base : Nat) (e : TypeId) : SRow w base e (.slice none 0 0) [] := World.ownsRow_nil w base e 1
/-- What a row of texts is: the nil row, or a block with these texts ahead. -/
theorem SRow.cases {w : World} {base : Nat} {e : TypeId} {v : Value} {xs : List (List UInt8)} (h : SRow w base e v xs) :
    (v = .slice none 0 0 ∧ xs = []) ∨ ∃ g cap, v = .slice (some ⟨g, 0, none⟩) xs.length cap ∧ base ≤ g ∧ g < w.heap.size ∧ xs.length ≤ cap ∧ ∀ (j : Nat) x, xs[j]? = some x → w.cell? ⟨g, j, none⟩ = some (.string (bs x)) := by
  have hc := fun (g : Nat) (hg : v.ownBlock = some g) => World.ownsRow.cells h hg
  rcases h.2 with ⟨rfl, hn⟩ | ⟨g, cap, cur, rfl, h1, h2, h3, _⟩
  · exact .inl ⟨rfl, List.eq_nil_of_length_eq_zero hn⟩
  · refine .inr ⟨g, cap, rfl, h1, (Array.getElem?_eq_some_iff.1 h2).1, h3, fun j x hx => ?_⟩
    have := hc g rfl j _ (sc_get hx)
    have e : Addr.add ⟨g, 0, none⟩ j = ⟨g, j, none⟩ := by unfold Addr.add; split <;> simp_all
    rwa [e] at this
end Go.Proofs.YtpjafbinlklojaaDoor
