/- Joined texts: Bh, BdP, PpPlain, Unique, Order, PpWalksA, PpMapI, PpWalksB, PpWalksC, PpWalksD, PpWalksE, PpPlainB. -/
import Derived.Test.YtbdkoagagcemcaaPk1
import Derived.WalkKit
import Derived.StillTail
import Derived.Maps.OwnSet
import Derived.Deep.Cut
import Derived.Shelf.SlicesE.IndexFunc
/- Layer 24 plain: numbers of as few bytes as may be; a row that is written is read as it was. No program. -/
namespace Go.Proofs.Ytbdkoagagcemcaa

/-- A coding: bytes at most, 256 less the least that goes on, low bits of a sign, are differences written? -/
structure Cod where
  b : Nat
  h : Nat
  s : Nat
  d : Nat
  deriving DecidableEq
def Cod.ok (c : Cod) : Prop := 1 ≤ c.b ∧ c.b ≤ 5 ∧ 2 ≤ c.h ∧ c.h ≤ 256 ∧ c.s ≤ 2 ∧ c.d ≤ 1 ∧ (1 < c.b ∨ c.h = 256) ∧ (c.b < 5 ∨ c.h < 256)
instance (c : Cod) : Decidable c.ok := by unfold Cod.ok; infer_instance
/-- How many plain numbers there are of k + 1 bytes at most. -/
def reachU (h : Nat) : Nat → Nat
  | 0 => 256
  | k + 1 => 256 - h + h * reachU h k
def Cod.reach (c : Cod) : Nat := min (reachU c.h (c.b - 1)) 4294967296
/-- A plain number's bytes. -/
def putU (h : Nat) : Nat → Nat → List UInt8
  | 0, u => [UInt8.ofNat u]
  | k + 1, u => if u < 256 - h then [UInt8.ofNat u] else UInt8.ofNat (256 - h + (u - (256 - h)) % h) :: putU h k ((u - (256 - h)) / h)
/-- The plain number that bytes begin with. -/
def getU (h : Nat) : Nat → List UInt8 → Option (Nat × List UInt8)
  | _, [] => none
  | 0, x :: l => some (x.toNat, l)
  | k + 1, x :: l => if x.toNat < 256 - h then some (x.toNat, l) else (getU h k l).map fun p => (x.toNat + h * p.1, p.2)
theorem ofNat_lt {n : Nat} (h : n < 256) : (UInt8.ofNat n).toNat = n := by simp [UInt8.toNat_ofNat']; omega
theorem get_put {h : Nat} (h1 : 1 ≤ h) (h2 : h ≤ 256) : ∀ (k u : Nat) (r : List UInt8), u < reachU h k → getU h k (putU h k u ++ r) = some (u, r)
  | 0, u, r, hu => by
    simp only [putU, List.singleton_append, getU]
    rw [ofNat_lt hu]
  | k + 1, u, r, hu => by
    simp only [reachU] at hu
    by_cases hl : u < 256 - h
    · simp only [putU, if_pos hl, List.singleton_append, getU]
      rw [ofNat_lt (by omega), if_pos hl]
    · have hm : (u - (256 - h)) % h < h := Nat.mod_lt _ (by omega)
      have hd : (u - (256 - h)) / h < reachU h k := by
        rw [Nat.div_lt_iff_lt_mul (by omega), Nat.mul_comm]
        omega
      simp only [putU, if_neg hl, List.cons_append, getU]
      rw [ofNat_lt (by omega), if_neg (by omega), get_put h1 h2 k _ r hd]
      simp only [Option.map_some]
      have := Nat.mod_add_div (u - (256 - h)) h
      congr 2
      omega
theorem put_len (h : Nat) : ∀ (k u : Nat), 1 ≤ (putU h k u).length
  | 0, u => by simp [putU]
  | k + 1, u => by
    unfold putU
    split <;> simp
theorem get_lt {h : Nat} (h2 : h ≤ 256) : ∀ (k : Nat) (l : List UInt8) (p : Nat × List UInt8), getU h k l = some p → p.1 < reachU h k
  | k, [], p, e => by cases k <;> simp [getU] at e
  | 0, x :: l, p, e => by
    simp only [getU, Option.some.injEq] at e
    rw [← e]
    exact x.toNat_lt
  | k + 1, x :: l, p, e => by
    have hx := x.toNat_lt
    simp only [getU] at e
    simp only [reachU]
    split at e
    · rename_i hx2
      simp only [Option.some.injEq] at e
      rw [← e]
      dsimp only
      omega
    · cases hg : getU h k l with
      | none => rw [hg] at e; cases e
      | some q =>
        rw [hg] at e
        simp only [Option.map_some, Option.some.injEq] at e
        have := get_lt h2 k l q hg
        rw [← e]
        dsimp only
        have h3 : h * q.1 + h ≤ h * reachU h k := by
          rw [← Nat.mul_succ]
          exact Nat.mul_le_mul_left _ this
        omega

/-- A number's plain one, and a plain one's number. -/
def plainI (s : Nat) (v : Int) : Int := if s = 0 then v else if v < 0 then (-1 - v) * 2 ^ s + (2 ^ s - 1) else v + v / (2 ^ s - 1)
def numI (s : Nat) (u : Int) : Int := if s = 0 then u else if u % 2 ^ s = 2 ^ s - 1 then -1 - u / 2 ^ s else u - u / 2 ^ s
theorem num_plain {s : Nat} (hs : s ≤ 2) (v : Int) : numI s (plainI s v) = v := by
  obtain rfl | rfl | rfl : s = 0 ∨ s = 1 ∨ s = 2 := by omega
  · simp [numI, plainI]
  · unfold numI plainI
    simp only [show ¬ (1 : Nat) = 0 from by decide, if_false, show (2 : Int) ^ 1 = 2 from rfl]
    by_cases hv : v < 0
    · simp only [hv, if_true]
      split <;> omega
    · simp only [hv, if_false]
      split <;> omega
  · unfold numI plainI
    simp only [show ¬ (2 : Nat) = 0 from by decide, if_false, show (2 : Int) ^ 2 = 4 from rfl]
    by_cases hv : v < 0
    · simp only [hv, if_true]
      split <;> omega
    · simp only [hv, if_false]
      split <;> omega
/-- A row's bounds. -/
def boundI (s : Nat) (v : Int) : Bool := if s = 0 then decide (0 ≤ v ∧ v < 4294967296) else decide (-2147483648 ≤ v ∧ v < 2147483648)
def roundI (s : Nat) (v : Int) : Int := if s = 0 then v % 4294967296 else (v + 2147483648) % 4294967296 - 2147483648
theorem round_bound (s : Nat) (v : Int) : boundI s (roundI s v) = true := by
  unfold boundI roundI
  split
  · exact decide_eq_true (by omega)
  · exact decide_eq_true (by omega)
theorem round_back {s : Nat} {v last : Int} (h : boundI s v = true) : roundI s (last + roundI s (v - last)) = v := by
  unfold boundI at h
  unfold roundI
  by_cases hs : s = 0
  · rw [if_pos hs] at h ⊢
    simp only [hs, if_true]
    have := of_decide_eq_true h
    omega
  · rw [if_neg hs] at h ⊢
    simp only [hs, if_false]
    have := of_decide_eq_true h
    omega
/-- What is written of a number, behind another one. -/
def Cod.diff (c : Cod) (last v : Int) : Int := if c.d = 1 then roundI c.s (v - last) else v
def Cod.sum (c : Cod) (last v : Int) : Int := if c.d = 1 then roundI c.s (last + v) else v
def Cod.fits (c : Cod) (u : Int) : Bool := decide (0 ≤ u ∧ u < (c.reach : Int))
/-- A row's bytes; none: a number is out of range. -/
def Cod.row (c : Cod) : Int → List Int → Option (List UInt8)
  | _, [] => some []
  | last, v :: l => if boundI c.s v = true ∧ c.fits (plainI c.s (c.diff last v)) = true then (c.row v l).map fun r => putU c.h (c.b - 1) (plainI c.s (c.diff last v)).toNat ++ r else none
/-- A number that bytes begin with: an error, or the number and what is left. -/
def Cod.get (c : Cod) (l : List UInt8) : Except Int (Int × List UInt8) :=
  match getU c.h (c.b - 1) l with
  | none => .error 6
  | some (u, r) => if 4294967296 ≤ u then .error 5 else .ok (numI c.s u, r)
/-- A row that bytes begin with. -/
def Cod.read (c : Cod) : Nat → Int → List UInt8 → Except Int (List Int × List UInt8)
  | 0, _, l => .ok ([], l)
  | n + 1, last, l => match c.get l with
    | .error e => .error e
    | .ok (v, r) => if boundI c.s v = true then (match c.read n (c.sum last v) r with
      | .error e => .error e
      | .ok (vs, r') => .ok (c.sum last v :: vs, r')) else .error 5
theorem Cod.diff_bound (c : Cod) {last v : Int} (h : boundI c.s v = true) : boundI c.s (c.diff last v) = true := by
  unfold Cod.diff
  split
  · exact round_bound _ _
  · exact h
theorem Cod.sum_diff (c : Cod) {last v : Int} (h : boundI c.s v = true) : c.sum last (c.diff last v) = v := by
  unfold Cod.sum Cod.diff
  by_cases hd : c.d = 1
  · rw [if_pos hd, if_pos hd]; exact round_back h
  · rw [if_neg hd, if_neg hd]
theorem Cod.get_put (c : Cod) (hc : c.ok) {v : Int} (hf : c.fits (plainI c.s v) = true) (r : List UInt8) : c.get (putU c.h (c.b - 1) (plainI c.s v).toNat ++ r) = .ok (v, r) := by
  obtain ⟨_, _, h1, h2, h3, _⟩ := hc
  unfold Cod.fits at hf
  obtain ⟨f1, f2⟩ := of_decide_eq_true hf
  unfold Cod.reach at f2
  have f3 : (plainI c.s v).toNat < reachU c.h (c.b - 1) := by omega
  have f4 : (plainI c.s v).toNat < 4294967296 := by omega
  unfold Cod.get
  rw [Go.Proofs.Ytbdkoagagcemcaa.get_put (by omega) h2 _ _ r f3]
  dsimp only
  rw [if_neg (by omega), Int.toNat_of_nonneg f1, num_plain h3]
/-- What is written is read as it was. -/
theorem Cod.read_row (c : Cod) (hc : c.ok) : ∀ (l : List Int) (last : Int) (b r : List UInt8), c.row last l = some b → c.read l.length last (b ++ r) = .ok (l, r)
  | [], last, b, r, h => by
    simp only [Cod.row, Option.some.injEq] at h
    rw [← h]
    rfl
  | v :: l, last, b, r, h => by
    unfold Cod.row at h
    split at h
    · rename_i hb
      cases hr : c.row v l with
      | none => rw [hr] at h; cases h
      | some b' =>
        rw [hr] at h
        simp only [Option.map_some, Option.some.injEq] at h
        subst h
        rw [List.append_assoc, List.length_cons]
        unfold Cod.read
        rw [c.get_put hc hb.2 (b' ++ r)]
        dsimp only
        rw [if_pos (c.diff_bound hb.1), c.sum_diff hb.1, Cod.read_row c hc l v b' r hr]
    · cases h
theorem Cod.row_len (c : Cod) : ∀ (l : List Int) (last : Int) (b : List UInt8), c.row last l = some b → l.length ≤ b.length
  | [], last, b, h => by simp
  | v :: l, last, b, h => by
    unfold Cod.row at h
    split at h
    · cases hr : c.row v l with
      | none => rw [hr] at h; cases h
      | some b' =>
        rw [hr] at h
        simp only [Option.map_some, Option.some.injEq] at h
        subst h
        have := Cod.row_len c l v b' hr
        have := put_len c.h (c.b - 1) (plainI c.s (c.diff last v)).toNat
        simp only [List.length_cons, List.length_append]
        omega
    · cases h
end Go.Proofs.Ytbdkoagagcemcaa

/- Layer 26 plain: the codings, and a row by a coding's number. No program. -/
namespace Go.Proofs.Ytbdkoagagcemcaa

def cods : List Cod := [⟨5, 64, 0, 0⟩, ⟨5, 64, 1, 0⟩, ⟨1, 256, 0, 0⟩, ⟨1, 256, 1, 0⟩, ⟨1, 256, 1, 1⟩, ⟨5, 64, 0, 1⟩, ⟨5, 64, 1, 1⟩, ⟨3, 128, 0, 0⟩, ⟨2, 128, 0, 1⟩, ⟨2, 192, 0, 0⟩, ⟨4, 256, 0, 0⟩, ⟨4, 256, 1, 0⟩, ⟨2, 256, 0, 0⟩, ⟨5, 16, 0, 0⟩, ⟨5, 4, 1, 1⟩]
theorem cods_ok : ∀ c ∈ cods, c.ok := by decide
/-- A row by a coding's number. -/
def plainR (kind n : Nat) (r : List UInt8) : Except Int (List Int × List UInt8) :=
  match cods[kind]? with
  | none => .error 9
  | some c => if r.length < n then .error 6 else c.read n 0 r
def nextR (n : Nat) : List UInt8 → Except Int (List Int × List UInt8)
  | [] => .error 6
  | k :: r => plainR k.toNat n r
end Go.Proofs.Ytbdkoagagcemcaa

/- Layer 25 in plain words: favorites' places. No program. -/
namespace Go.Proofs.Ytbdkoagagcemcaa.Pp
open Go.RowKit

/-- A number's place among favorites, from 1 on; 0: none. -/
def Po.at : List Int → Int → Nat
  | [], _ => 0
  | f :: fs, v => if f = v then 1 else if Po.at fs v = 0 then 0 else Po.at fs v + 1
theorem Po.at_le : ∀ (fs : List Int) (v : Int), Po.at fs v ≤ fs.length
  | [], _ => Nat.le_refl _
  | f :: fs, v => by
    have := Po.at_le fs v
    unfold Po.at
    split
    · simp
    · split <;> simp only [List.length_cons] <;> omega
theorem Po.at_zero : ∀ {fs : List Int} {v : Int}, Po.at fs v = 0 ↔ v ∉ fs
  | [], v => by simp [Po.at]
  | f :: fs, v => by
    unfold Po.at
    by_cases h : f = v
    · rw [if_pos h]; simp [h]
    · rw [if_neg h]
      have ih := Po.at_zero (fs := fs) (v := v)
      by_cases h0 : Po.at fs v = 0
      · rw [if_pos h0]
        have := ih.1 h0
        simp [this]
        exact fun e => h e.symm
      · rw [if_neg h0]
        have : v ∈ fs := by
          rcases Classical.em (v ∈ fs) with h1 | h1
          · exact h1
          · exact absurd (ih.2 h1) h0
        simp [this]
/-- The number at its place. -/
theorem Po.at_get : ∀ {fs : List Int} {v : Int}, Po.at fs v ≠ 0 → fs[Po.at fs v - 1]? = some v
  | [], v, h => absurd rfl h
  | f :: fs, v, h => by
    unfold Po.at at h ⊢
    by_cases h1 : f = v
    · rw [if_pos h1]; simp [h1]
    · rw [if_neg h1] at h ⊢
      by_cases h0 : Po.at fs v = 0
      · rw [if_pos h0] at h; exact absurd rfl h
      · rw [if_neg h0]
        have := Po.at_get (fs := fs) (v := v) h0
        obtain ⟨k, hk⟩ : ∃ k, Po.at fs v = k + 1 := ⟨Po.at fs v - 1, by omega⟩
        rw [hk] at this ⊢
        simpa using this
/-- One favorite more behind the others. -/
theorem Po.at_snoc : ∀ (fs : List Int) (x v : Int), Po.at (fs ++ [x]) v = if Po.at fs v ≠ 0 then Po.at fs v else if x = v then fs.length + 1 else 0
  | [], x, v => by simp [Po.at]
  | f :: fs, x, v => by
    have ih := Po.at_snoc fs x v
    simp only [List.cons_append, Po.at, ih]
    by_cases h1 : f = v
    · simp [h1]
    · simp only [h1, if_false]
      by_cases h0 : Po.at fs v = 0
      · by_cases h2 : x = v <;> simp [h0, h2]
      · simp [h0]
/-- One favorite more ahead of the others. -/
theorem Po.at_cons (f : Int) (fs : List Int) (v : Int) : Po.at (f :: fs) v = if f = v then 1 else if Po.at fs v = 0 then 0 else Po.at fs v + 1 := rfl
def Po.tokens (fs l : List Int) : List Int := l.map fun v => (Po.at fs v : Int)
def Po.left (fs l : List Int) : List Int := l.filter fun v => decide (Po.at fs v = 0)
theorem Po.tokens_snoc (fs l : List Int) (v : Int) : Po.tokens fs (l ++ [v]) = Po.tokens fs l ++ [(Po.at fs v : Int)] := by simp [Po.tokens]
theorem Po.left_snoc (fs l : List Int) (v : Int) : Po.left fs (l ++ [v]) = Po.left fs l ++ if Po.at fs v = 0 then [v] else [] := by
  unfold Po.left
  rw [List.filter_append]
  by_cases h : Po.at fs v = 0 <;> simp [h]
theorem take_snocI {α : Type} (l : List α) (i : Nat) (x : α) (h : l[i]? = some x) : l.take (i + 1) = l.take i ++ [x] := by
  obtain ⟨h1, rfl⟩ := List.getElem?_eq_some_iff.1 h
  exact List.take_succ_eq_append_getElem h1
theorem count_snoc (l : List Int) (x v : Int) : (l ++ [x]).count v = l.count v + if x = v then 1 else 0 := by
  rw [List.count_append]
  by_cases h : x = v
  · subst h; simp
  · simp [h]
end Go.Proofs.Ytbdkoagagcemcaa.Pp
/- A call that returns returns one value. No program. -/
namespace Go.Proofs.Ytbdkoagagcemcaa
open Go.RowKit

/-- A caller behind which nothing goes on. -/
def deadEnd (P : Program) : Frame := { fn := P.funcs.size, tmps := #[], todo := [], defers := [], mode := .returning, kind := .report }
theorem step_deadEnd (P : Program) (w : World) : ∃ o, step P (lone (deadEnd P) [] w) = .ended o w := by
  refine ⟨_, step_lone_ended (o := .stuck "report: Error or String returned no string" "") ?_⟩
  simp [stepG, deadEnd, unwind, doReturn]
theorem runN_ended {P : Program} {m : Machine} {o : Outcome} {w : World} (h : step P m = .ended o w) (d : Nat) (m' : Machine) (h2 : runN P (d + 1) m = .next m') : False := by
  simp [runN, h] at h2
theorem Calls.unique {P : Program} {f : FuncId} {args : Array Value} {w : World} {v1 v2 : Value}
    (h1 : Calls P f args w fun e _ => e = .returned v1) (h2 : Calls P f args w fun e _ => e = .returned v2) : v1 = v2 := by
  obtain ⟨e1, w1, fr1, rfl, c1, _, l1⟩ := h1 [deadEnd P]
  obtain ⟨e2, w2, fr2, rfl, c2, _, l2⟩ := h2 [deadEnd P]
  obtain ⟨n1, r1⟩ := c1
  obtain ⟨n2, r2⟩ := c2
  have key : ∀ {n1 n2 : Nat} {fr1 fr2 : Frame} {w1 w2 : World} {v1 v2 : Value}, runN P n1 (lone (Frame.enter P f args .normal) [deadEnd P] w) = .next (lone fr1 [deadEnd P] w1) →
      runN P n2 (lone (Frame.enter P f args .normal) [deadEnd P] w) = .next (lone fr2 [deadEnd P] w2) → fr1.leaving P w1 (.returned v1) → fr2.leaving P w2 (.returned v2) → n1 ≤ n2 → v1 = v2 := by
    intro n1 n2 fr1 fr2 w1 w2 v1 v2 r1 r2 l1 l2 hle
    obtain ⟨d, rfl⟩ := Nat.exists_eq_add_of_le hle
    rw [runN_add, r1] at r2
    have hs := step_leave_returned (c := deadEnd P) (cs := []) l1
    match d, r2 with
    | 0, r2 =>
      simp [runN, lone] at r2
      obtain ⟨rw2, rf⟩ := r2
      subst rw2 rf
      obtain ⟨_, _, _, fn1, hf1, hr1⟩ := l1
      obtain ⟨_, _, _, fn2, hf2, hr2⟩ := l2
      rw [hf1] at hf2
      cases hf2
      rw [hr1] at hr2
      simp at hr2
      exact hr2
    | 1, r2 =>
      have r3 : runN P (0 + 1) (lone fr1 [deadEnd P] w1) = .next (lone fr2 [deadEnd P] w2) := r2
      simp only [runN, hs, Stepped.next.injEq] at r3
      have r4 := congrArg (fun m : Machine => m.gs) r3
      simp [lone] at r4
    | d + 2, r2 =>
      have hf : (deadEnd P).finish v1 = deadEnd P := rfl
      rw [hf] at hs
      obtain ⟨o, ho⟩ := step_deadEnd P w1
      have r3 : runN P ((d + 1) + 1) (lone fr1 [deadEnd P] w1) = .next (lone fr2 [deadEnd P] w2) := r2
      simp only [runN, hs] at r3
      have r2 : runN P (d + 1) (lone (deadEnd P) [] w1) = .next (lone fr2 [deadEnd P] w2) := r3
      exact (runN_ended ho d _ r2).elim
  rcases Nat.le_total n1 n2 with h | h
  · exact key r1 r2 l1 l2 h
  · exact (key r2 r1 l2 l1 h).symm
end Go.Proofs.Ytbdkoagagcemcaa

/- Regions that draw their order: operations that only read, calls that may make memory, and operations that lay a fresh block (alloc, buildSlice), in whatever order; then a tail in one forced order. One walk in the order of the text serves every order. No program. -/
namespace Go.Proofs.Ytbdkoagagcemcaa
open Go.RowKit

/-- What is known of blocks that the region's own operations have laid: by slot. -/
abbrev Env := Nat → Nat → Obj → Prop
def Env.upd (E : Env) (d : Option Nat) (B : Nat) (o : Obj) : Env := fun s C u => E s C u ∨ (d = some s ∧ C = B ∧ u = o)
def Env.only (ops : Array Oper) (o : Oper) (E : Env) : Env := fun s C u => (o.looksAt ops).contains s = true ∧ E s C u
def Env.none : Env := fun _ _ _ => False

/-- All that stood at the region's head is as it was, and the blocks that are known hold what is known. -/
structure Cl (w0 : World) (E : Env) (x : World) : Prop where
  below : Below w0.heap.size w0 x
  fact : ∀ s B o, E s B o → w0.heap.size ≤ B ∧ x.heap[B]? = some o

section
variable {P : Program} {ops : Array Oper} {md : Region.Mode} {Q : Exit → Act → World → Prop} {w0 x y : World} {E F : Env}

theorem Cl.grow (h : Cl w0 E x) (k : Below x.heap.size x y) : Cl w0 E y :=
  ⟨h.below.trans (k.mono h.below.size), fun s B o e => by
    obtain ⟨h1, h2⟩ := h.fact s B o e
    exact ⟨h1, (k.block B (Array.getElem?_eq_some_iff.1 h2).1).trans h2⟩⟩
theorem Cl.sub (h : Cl w0 E x) (hs : ∀ s B o, F s B o → E s B o) : Cl w0 F x := ⟨h.below, fun s B o e => h.fact s B o (hs s B o e)⟩
theorem Cl.only (h : Cl w0 E x) (o : Oper) : Cl w0 (E.only ops o) x := h.sub fun _ _ _ e => e.2
theorem Cl.upd (h : Cl w0 E x) (d : Option Nat) (obj : Obj) : Cl w0 (E.upd d x.heap.size obj) (x.alloc obj) := by
  have hg := h.grow (y := x.alloc obj) ((Below.refl _ _).alloc (Nat.le_refl _) _)
  refine ⟨hg.below, fun s B o e => ?_⟩
  rcases e with e | ⟨_, rfl, rfl⟩
  · exact hg.fact s B o e
  · exact ⟨h.below.size, heap_alloc_new x _⟩

/-- The value of an operation that lays block number B. -/
def blkVal (o : Oper) (B : Nat) : Value := match o.op with | .buildSlice _ n _ => .slice (some ⟨B, 0, none⟩) n n | _ => .pointer (some ⟨B, 0, none⟩)
/-- What an operation comes to: one value; or a fresh block that holds this. -/
abbrev Kind := Value ⊕ Obj
def Kind.res (o : Oper) (k : Kind) (B : Nat) : Value := match k with | .inl v => v | .inr _ => blkVal o B
def Kind.env (o : Oper) (k : Kind) (B : Nat) (E : Env) : Env := match k with | .inl _ => E | .inr obj => E.upd o.dst B obj

def Runs (P : Program) (ops : Array Oper) (w0 : World) (F : Env) (o : Oper) (a : Act) : Kind → Prop
  | .inl v => (Region.wanted o (yielded ops a.tmps) = true ∧ ∀ x, Cl w0 F x → o.quietAt P a (fun y => Below x.heap.size x y) x v) ∨ (Region.wanted o (yielded ops a.tmps) = false ∧ v = undef)
  | .inr obj => Region.wanted o (yielded ops a.tmps) = true ∧ ∀ x, Cl w0 F x → (execOp a.eval o).run P x = .ok (.value (blkVal o x.heap.size)) (x.alloc obj)

theorem alloc_ne (x : World) (o : Obj) : x.alloc o ≠ x := fun h => by
  have := congrArg (fun w : World => w.heap.size) h
  simp at this
theorem alloc_inj {x : World} {o1 o2 : Obj} (h : x.alloc o1 = x.alloc o2) : o1 = o2 := by
  have h1 := heap_alloc_new x o1
  rw [h, heap_alloc_new x o2] at h1
  exact (Option.some.inj h1).symm

theorem quietUpon_det {C D : World → Prop} {v u : Value} {r : Result Next} (h1 : Oper.quietUpon P C x v r) (h2 : Oper.quietUpon P D x u r) : v = u := by
  cases r with
  | ok n w' =>
    cases n <;> simp only [Oper.quietUpon] at h1 h2
    case value => rw [← h1.2, ← h2.2]
    case skip => rw [h1.2, h2.2]
    case enter f args =>
      obtain ⟨rfl, c1⟩ := h1
      exact Calls.unique (c1.mono fun _ _ h => h.1) (h2.2.mono fun _ _ h => h.1)
  | halt => simp only [Oper.quietUpon] at h1

theorem Runs.det {o : Oper} {a : Act} : ∀ {k1 k2 : Kind}, Runs P ops w0 F o a k1 → Runs P ops w0 F o a k2 → Cl w0 F x → k1 = k2
  | .inl v, .inl u, h1, h2, hx => by
    rcases h1 with ⟨w1, h1⟩ | ⟨w1, h1⟩ <;> rcases h2 with ⟨w2, h2⟩ | ⟨w2, h2⟩
    · exact congrArg _ (quietUpon_det (h1 x hx) (h2 x hx))
    · rw [w1] at w2; cases w2
    · rw [w1] at w2; cases w2
    · rw [h1, h2]
  | .inl v, .inr o2, h1, h2, hx => by
    rcases h1 with ⟨w1, h1⟩ | ⟨w1, h1⟩
    · have := h1 x hx
      unfold Oper.quietAt at this
      rw [h2.2 x hx] at this
      exact absurd this.1 (alloc_ne x o2)
    · have := h2.1; rw [w1] at this; cases this
  | .inr o1, .inl u, h1, h2, hx => by
    rcases h2 with ⟨w2, h2⟩ | ⟨w2, h2⟩
    · have := h2 x hx
      unfold Oper.quietAt at this
      rw [h1.2 x hx] at this
      exact absurd this.1 (alloc_ne x o1)
    · have := h1.1; rw [w2] at this; cases this
  | .inr o1, .inr o2, h1, h2, hx => by
    have := (h1.2 x hx).symm.trans (h2.2 x hx)
    simp only [Result.ok.injEq] at this
    exact congrArg _ (alloc_inj this.2)

theorem Runs.put {o : Oper} {a : Act} {dst : Option Tmp} {u : Value} (hs : ∀ cs b, o.op ≠ .select cs b) (h : ∀ d, dst = some d → d ∉ o.looksAt ops) (k : Kind) : Runs P ops w0 F o (a.put dst u) k ↔ Runs P ops w0 F o a k := by
  cases k <;> simp only [Runs, Oper.quietAt, execOp_put o hs a dst u h, wanted_put o a dst u h]
theorem Env.only_env {oi oj : Oper} (k : Kind) (B : Nat) (h : ∀ d, oi.dst = some d → d ∉ oj.looksAt ops) : (k.env oi B E).only ops oj = E.only ops oj := by
  cases k with
  | inl v => rfl
  | inr obj =>
    funext s C u
    apply propext
    exact ⟨fun ⟨h1, h2⟩ => ⟨h1, h2.resolve_right fun h3 => h s h3.1 (by simpa using h1)⟩, fun ⟨h1, h2⟩ => ⟨h1, .inl h2⟩⟩
theorem Kind.env_comm {oi oj : Oper} (ki kj : Kind) (Bi Bj : Nat) : ki.env oi Bi (kj.env oj Bj E) = kj.env oj Bj (ki.env oi Bi E) := by
  cases ki with
  | inl _ => rfl
  | inr obi =>
    cases kj with
    | inl _ => rfl
    | inr obj =>
      funext s C u
      apply propext
      exact ⟨fun h => by rcases h with (h | h) | h <;> simp [Kind.env, Env.upd, h], fun h => by rcases h with (h | h) | h <;> simp [Kind.env, Env.upd, h]⟩
theorem Kind.env_le (o : Oper) (k : Kind) (B : Nat) (s C : Nat) (u : Obj) (h : E s C u) : k.env o B E s C u := by
  cases k with
  | inl _ => exact h
  | inr _ => exact .inl h

theorem Runs.wpOp {i : Nat} {o : Oper} {a : Act} {k : Kind} (hi : ops[i]? = some o) (h : Runs P ops w0 (E.only ops o) o a k) (hx : Cl w0 E x) {K : Act → World → Prop}
    (hK : ∀ B y, w0.heap.size ≤ B → Cl w0 (k.env o B E) y → K (a.put o.dst (k.res o B)) y) : Go.wpOp P ops Q i K a x := by
  unfold Go.wpOp
  simp only [hi]
  cases k with
  | inl v =>
    have hK' := fun y hy => hK w0.heap.size y (Nat.le_refl _) hy
    rcases h with ⟨hw, hv⟩ | ⟨hw, rfl⟩
    · rw [if_pos hw]
      refine .inl ?_
      have h3 := hv x (hx.only o)
      unfold Oper.quietAt at h3
      unfold Oper.wp
      generalize (execOp a.eval o).run P x = r at *
      cases r with
      | ok n w' =>
        cases n <;> simp only [Oper.quietUpon] at h3 <;> simp only [Oper.upon]
        case value u => obtain ⟨rfl, rfl⟩ := h3; exact hK' _ hx
        case skip => obtain ⟨rfl, rfl⟩ := h3; exact hK' _ hx
        case enter f args =>
          obtain ⟨rfl, hc⟩ := h3
          exact hc.mono fun e w'' ⟨he, hw''⟩ => by subst he; exact hK' _ (hx.grow hw'')
      | halt => simp only [Oper.quietUpon] at h3
    · rw [if_neg (by rw [hw]; decide)]
      exact hK' x hx
  | inr obj =>
    rw [if_pos h.1]
    refine .inl ?_
    unfold Oper.wp
    rw [h.2 x (hx.only o)]
    exact hK x.heap.size _ hx.below.size (hx.upd o.dst obj)

/-- An operation that asks nothing of the world. -/
def lateB (o : Oper) : Bool := match o.op with | .extract _ _ => true | .move _ => true | _ => false
theorem late_run (o : Oper) (h : lateB o = true) (ρ : Operand → Value) : (∃ v, ∀ x, (execOp ρ o).run P x = .ok (.value v) x) ∨ (∀ x, ∃ hh, (execOp ρ o).run P x = .halt hh x) := by
  unfold lateB at h
  split at h
  · rename_i t i ho
    unfold execOp
    rw [ho]
    simp only [Instr.extract]
    split
    · split
      · exact .inl ⟨_, fun x => rfl⟩
      · exact .inr fun x => ⟨_, rfl⟩
    · exact .inr fun x => ⟨_, rfl⟩
  · rename_i t ho
    refine .inl ⟨ρ t, fun x => ?_⟩
    unfold execOp; rw [ho]; rfl
  · cases h
theorem late_yields {o : Oper} {a : Act} {k : Kind} (h : lateB o = true) (hr : Runs P ops w0 F o a k) (hx : Cl w0 F x) : ∃ v, k = .inl v ∧ Yields P ops o v a := by
  cases k with
  | inl v =>
    refine ⟨v, rfl, ?_⟩
    rcases hr with ⟨hw, hv⟩ | hr
    · refine .inl ⟨hw, ?_⟩
      have := hv x hx
      unfold Oper.quietAt at this
      rcases late_run (P := P) o h a.eval with ⟨u, hu⟩ | hu
      · rw [hu x] at this
        simp only [Oper.quietUpon] at this
        rw [← this.2]
        exact hu
      · obtain ⟨hh, e⟩ := hu x
        rw [e] at this
        simp only [Oper.quietUpon] at this
    · exact .inr hr
  | inr obj =>
    have := hr.2 x hx
    rcases late_run (P := P) o h a.eval with ⟨u, hu⟩ | hu
    · rw [hu x] at this
      simp only [Result.ok.injEq] at this
      exact absurd this.2.symm (alloc_ne x obj)
    · obtain ⟨hh, e⟩ := hu x
      rw [e] at this
      cases this

/-- Whatever order is picked while operations of the head (the first n) are to come; 'g': how many there are behind the head. -/
def AO (P : Program) (md : Region.Mode) (ops : Array Oper) (Q : Exit → Act → World → Prop) (w0 : World) (n g : Nat) : Nat → Array Bool → Env → Act → Prop
  | 0, listed, E, a => ∀ w, Cl w0 E w → (∀ j ∈ Region.ready md ops listed, n ≤ j) ∧ wpAny P md ops Q g listed a w
  | f + 1, listed, E, a => ∀ w, Cl w0 E w → Region.ready md ops listed ≠ [] ∧
      (∀ j ∈ Region.ready md ops listed, j < n → ∃ o k, ops[j]? = some o ∧ Runs P ops w0 (E.only ops o) o a k ∧
        ∀ B, w0.heap.size ≤ B → AO P md ops Q w0 n g f (listed.setIfInBounds j true) (k.env o B E) (a.put o.dst (k.res o B))) ∧
      ((∃ j ∈ Region.ready md ops listed, n ≤ j) → wpAny P md ops Q (f + 1 + g) listed a w)

theorem AO.any {n g : Nat} : ∀ (f : Nat) (listed : Array Bool) (E : Env) (a : Act) (w : World), AO P md ops Q w0 n g f listed E a → Cl w0 E w → wpAny P md ops Q (f + g) listed a w
  | 0, listed, E, a, w, h, hw => by rw [Nat.zero_add]; exact (h w hw).2
  | f + 1, listed, E, a, w, h, hw => by
    obtain ⟨hne, hA, hB⟩ := h w hw
    by_cases ht : ∃ j ∈ Region.ready md ops listed, n ≤ j
    · exact hB ht
    · have e : f + 1 + g = (f + g) + 1 := by omega
      rw [e]
      refine ⟨fun h0 => absurd h0 hne, fun j hj => ?_⟩
      have hjn : j < n := Nat.lt_of_not_le fun hh => ht ⟨j, hj, hh⟩
      obtain ⟨o, k, ho, hr, hk⟩ := hA j hj hjn
      exact hr.wpOp ho hw fun B y hB hy => AO.any f _ _ _ y (hk B hB) hy

/-- What has come up has had all that it waits for. -/
def Closed (md : Region.Mode) (ops : Array Oper) (listed : Array Bool) : Prop :=
  ∀ (j : Nat) oj, ops[j]? = some oj → listed.getD j false = true → ∀ e ∈ oj.after, Region.binds md e = true → listed.getD e.on false = true
theorem getD_set_true {listed : Array Bool} {i : Nat} (h : i < listed.size) (d : Bool) : (listed.setIfInBounds i true).getD i d = true := by
  simp [Array.getD, h]
theorem getD_set_mono {listed : Array Bool} {i j : Nat} (h : listed.getD j false = true) : (listed.setIfInBounds i true).getD j false = true := by
  by_cases e : i = j
  · subst e
    by_cases hs : i < listed.size
    · exact getD_set_true hs false
    · rw [Array.setIfInBounds_eq_of_size_le (by omega)]; exact h
  · rw [getD_set_ne false e]; exact h
theorem Closed.set {listed : Array Bool} {i : Nat} (h : Closed md ops listed) (hr : i ∈ Region.ready md ops listed) : Closed md ops (listed.setIfInBounds i true) := by
  intro j oj hoj hl e he hb
  obtain ⟨_, o, ho, hall⟩ := mem_ready.1 hr
  by_cases eij : i = j
  · subst eij
    rw [hoj] at ho
    cases ho
    exact getD_set_mono (hall e he hb)
  · rw [getD_set_ne false eij] at hl
    exact getD_set_mono (h j oj hoj hl e he hb)
theorem Closed.none (n : Nat) : Closed md ops (Array.replicate n false) := by
  intro j oj _ hl
  exfalso
  simp [Array.getD] at hl
/-- t waits for i, itself or through others. -/
def waitsT (md : Region.Mode) (ops : Array Oper) : Nat → Nat → Nat → Bool
  | 0, t, i => Region.waitsFor md ops t i
  | f + 1, t, i => Region.waitsFor md ops t i || (match ops[t]? with | some ot => ot.after.any fun e => Region.binds md e && waitsT md ops f e.on i | none => false)
theorem waitsT_listed {listed : Array Bool} (hc : Closed md ops listed) {i : Nat} : ∀ (f t : Nat), waitsT md ops f t i = true → (∀ ot, ops[t]? = some ot → ∀ e ∈ ot.after, Region.binds md e = true → listed.getD e.on false = true) → listed.getD i false = true
  | 0, t, h, ha => by
    obtain ⟨ot, hot, e, he, hb, hon⟩ := Region.waitsFor_spec h
    rw [← hon]; exact ha ot hot e he hb
  | f + 1, t, h, ha => by
    unfold waitsT at h
    rw [Bool.or_eq_true] at h
    rcases h with h | h
    · obtain ⟨ot, hot, e, he, hb, hon⟩ := Region.waitsFor_spec h
      rw [← hon]; exact ha ot hot e he hb
    · split at h
      · rename_i ot hot
        obtain ⟨e, he, hb⟩ := Array.any_eq_true'.1 h
        rw [Bool.and_eq_true] at hb
        have hl := ha ot hot e he hb.1
        exact waitsT_listed hc f e.on hb.2 fun oj hoj e' he' hb' => hc e.on oj hoj hl e' he' hb'
      · cases h

/-- An operation of the head that may come up may be taken first. -/
theorem AO.first {n g i : Nat} {oi : Oper} {ki : Kind} (hi : ops[i]? = some oi) (hin : i < n) (hsel : ∀ (j : Nat) (o : Oper) cs b, ops[j]? = some o → o.op ≠ .select cs b)
    (hQ : ∀ c a v w, Q (.panic c) (a.put oi.dst v) w → Q (.panic c) a w)
    (hlate : ∀ (t : Nat) (ot : Oper), n ≤ t → ops[t]? = some ot → (∃ f, waitsT md ops f t i = true) ∨ lateB oi = true) (f : Nat) :
    ∀ (listed : Array Bool) (E : Env) (a : Act), Closed md ops listed →
      (∀ j oj, ops[j]? = some oj → j ≠ i → listed.getD j true = false → (∀ e ∈ oj.after, Region.binds md e = true → e.on ≠ i) → oi.apart ops oj = true) →
      i ∈ Region.ready md ops listed → Runs P ops w0 (E.only ops oi) oi a ki →
      (∀ B, w0.heap.size ≤ B → AO P md ops Q w0 n g f (listed.setIfInBounds i true) (ki.env oi B E) (a.put oi.dst (ki.res oi B))) → AO P md ops Q w0 n g (f + 1) listed E a := by
  -- at a tail's operation that comes up while this one is to come: this one asks nothing of the world
  have tail : ∀ (f : Nat) (listed : Array Bool) (E : Env) (a : Act) (w : World), Closed md ops listed → Cl w0 E w →
      (∀ j oj, ops[j]? = some oj → j ≠ i → listed.getD j true = false → (∀ e ∈ oj.after, Region.binds md e = true → e.on ≠ i) → oi.apart ops oj = true) →
      i ∈ Region.ready md ops listed → Runs P ops w0 (E.only ops oi) oi a ki →
      (∀ B, w0.heap.size ≤ B → AO P md ops Q w0 n g f (listed.setIfInBounds i true) (ki.env oi B E) (a.put oi.dst (ki.res oi B))) →
      (∃ j ∈ Region.ready md ops listed, n ≤ j) → wpAny P md ops Q (f + 1 + g) listed a w := by
    intro f listed E a w hcl hw hfree hr hy H ht
    obtain ⟨t, htr, htn⟩ := ht
    obtain ⟨_, ot, hot, hall⟩ := mem_ready.1 htr
    have hla : lateB oi = true := by
      rcases hlate t ot htn hot with ⟨f, hf⟩ | h
      · have h1 := waitsT_listed hcl f t hf fun ot' hot' => by
          rw [hot] at hot'; cases hot'; exact hall
        rw [getD_both (mem_ready.1 hr).1] at h1
        cases h1
      · exact h
    obtain ⟨v, rfl, hyl⟩ := late_yields hla hy (hw.only oi)
    have h1 := AO.any f _ _ _ w (H w0.heap.size (Nat.le_refl _)) hw
    have e : f + 1 + g = (f + g) + 1 := by omega
    rw [e]
    exact wpAny_first hi hsel (fun c a w => hQ c a v w) (f + g) listed a w hfree hr hyl h1
  induction f with
  | zero =>
    intro listed E a hcl hfree hr hy H w hw
    refine ⟨fun h => (by rw [h] at hr; cases hr), fun j hj hjn => ?_, tail 0 listed E a w hcl hw hfree hr hy H⟩
    by_cases hji : j = i
    · subst hji
      exact ⟨oi, ki, hi, hy, H⟩
    · -- no other operation of the head is left
      exfalso
      have hx : ∃ B w', w0.heap.size ≤ B ∧ Cl w0 (ki.env oi B E) w' := by
        cases ki with
        | inl v => exact ⟨w0.heap.size, w, Nat.le_refl _, hw⟩
        | inr obj => exact ⟨w.heap.size, _, hw.below.size, hw.upd oi.dst obj⟩
      obtain ⟨B, w', hB, hw'⟩ := hx
      have := (H B hB w' hw').1 j (ready_mono hj hji)
      omega
  | succ f ih =>
    intro listed E a hcl0 hfree hr hy H w hw
    refine ⟨fun h => (by rw [h] at hr; cases hr), fun j hj hjn => ?_, tail (f + 1) listed E a w hcl0 hw hfree hr hy H⟩
    by_cases hji : j = i
    · subst hji
      exact ⟨oi, ki, hi, hy, H⟩
    · have hx : ∃ B w', w0.heap.size ≤ B ∧ Cl w0 (ki.env oi B E) w' := by
        cases ki with
        | inl v => exact ⟨w0.heap.size, w, Nat.le_refl _, hw⟩
        | inr obj => exact ⟨w.heap.size, _, hw.below.size, hw.upd oi.dst obj⟩
      obtain ⟨B0, w1, hB0, hw1⟩ := hx
      obtain ⟨hjun, oj, hoj, hall⟩ := mem_ready.1 hj
      have hap : oi.apart ops oj = true := hfree j oj hoj hji hjun fun e he hb heq => by
        have h1 := hall e he hb
        rw [heq, getD_both (mem_ready.1 hr).1] at h1
        cases h1
      obtain ⟨ap1, ap2, ap3⟩ := Oper.apart_spec hap
      have hj' := ready_mono hj hji
      obtain ⟨oj', kj, hoj', hrj, _⟩ := (H B0 hB0 w1 hw1).2.1 j hj' hjn
      rw [hoj] at hoj'
      cases hoj'
      rw [Env.only_env ki B0 ap1, Runs.put (hsel j oj · · hoj) ap1] at hrj
      refine ⟨oj, kj, hoj, hrj, fun Bj hBj => ?_⟩
      refine ih (listed.setIfInBounds j true) (kj.env oj Bj E) (a.put oj.dst (kj.res oj Bj)) (hcl0.set hj) (fun k ok hk hki hkun hno => ?_) (ready_mono hr (Ne.symm hji)) ?_ fun Bi hBi => ?_
      · refine hfree k ok hk hki ?_ hno
        by_cases hjk : j = k
        · subst hjk
          exact hjun
        · rwa [getD_set_ne true hjk] at hkun
      · rw [Env.only_env kj Bj ap3, Runs.put (hsel i oi · · hi) ap3]
        exact hy
      · -- from what is known behind 'i', at any world of the class
        have big : ∀ w', Cl w0 (ki.env oi Bi E) w' → AO P md ops Q w0 n g f ((listed.setIfInBounds i true).setIfInBounds j true) (kj.env oj Bj (ki.env oi Bi E)) ((a.put oi.dst (ki.res oi Bi)).put oj.dst (kj.res oj Bj)) := by
          intro w' hw'
          obtain ⟨oj', kj', hoj', hrj', hk'⟩ := (H Bi hBi w' hw').2.1 j hj' hjn
          rw [hoj] at hoj'
          cases hoj'
          rw [Env.only_env ki Bi ap1, Runs.put (hsel j oj · · hoj) ap1] at hrj'
          have hcl : Cl w0 (E.only ops oj) w' := by
            have := hw'.only (ops := ops) oj
            rwa [Env.only_env ki Bi ap1] at this
          have hkk : kj' = kj := Runs.det hrj' hrj hcl
          subst hkk
          exact hk' Bj hBj
        have conv : AO P md ops Q w0 n g f ((listed.setIfInBounds j true).setIfInBounds i true) (ki.env oi Bi (kj.env oj Bj E)) ((a.put oj.dst (kj.res oj Bj)).put oi.dst (ki.res oi Bi)) ↔
            AO P md ops Q w0 n g f ((listed.setIfInBounds i true).setIfInBounds j true) (kj.env oj Bj (ki.env oi Bi E)) ((a.put oi.dst (ki.res oi Bi)).put oj.dst (kj.res oj Bj)) := by
          rw [Kind.env_comm ki kj Bi Bj, Array.setIfInBounds_comm _ _ (fun e => hji e), ← Act.put_comm a _ _ ap2]
        rw [conv]
        -- the statement asks for every world of the class: take that world
        have sub : ∀ w', Cl w0 (kj.env oj Bj (ki.env oi Bi E)) w' → Cl w0 (ki.env oi Bi E) w' := fun w' hw' => hw'.sub fun s C u hs => Kind.env_le oj kj Bj s C u hs
        cases f with
        | zero => exact fun w' hw' => big w' (sub w' hw') w' hw'
        | succ f => exact fun w' hw' => big w' (sub w' hw') w' hw'

/-! ### The order of the text -/
/-- The first n operations in the order of the text (each may come up then, and nobody that is to come touches what it reads or writes), then the others in one forced order; those wait for every one of the first that asks something of the world. -/
def ordHead (md : Region.Mode) (ops : Array Oper) (g : Nat) : Nat → Nat → Array Bool → Bool
  | 0, k, listed => Region.seqB md ops g k listed && (Region.ready md ops listed).all fun j => decide (k ≤ j)
  | f + 1, k, listed => (Region.ready md ops listed).contains k && Region.free md ops listed k && ordHead md ops g f (k + 1) (listed.setIfInBounds k true)
def ordLate (md : Region.Mode) (ops : Array Oper) (n : Nat) : Bool :=
  (List.range n).all fun i => (match ops[i]? with | some oi => lateB oi | none => false) || (List.range ops.size).all fun t => decide (t < n) || waitsT md ops 5 t i
def ordB (md : Region.Mode) (ops : Array Oper) (n : Nat) : Bool :=
  Region.noSelect ops && decide (n ≤ ops.size) && ordLate md ops n && ordHead md ops (ops.size - n) n 0 (Array.replicate ops.size false)
theorem ordLate_spec {n : Nat} (h : ordLate md ops n = true) {i : Nat} (hi : i < n) {oi : Oper} (hoi : ops[i]? = some oi) (t : Nat) (ot : Oper) (ht : n ≤ t) (hot : ops[t]? = some ot) :
    (∃ f, waitsT md ops f t i = true) ∨ lateB oi = true := by
  have h1 := List.all_eq_true.1 h i (List.mem_range.2 hi)
  simp only [hoi, Bool.or_eq_true] at h1
  rcases h1 with h1 | h1
  · exact .inr h1
  · have h2 := List.all_eq_true.1 h1 t (List.mem_range.2 (Array.getElem?_eq_some_iff.1 hot).1)
    simp only [Bool.or_eq_true, decide_eq_true_eq] at h2
    rcases h2 with h2 | h2
    · omega
    · exact .inl ⟨5, h2⟩

def wpLex (P : Program) (ops : Array Oper) (Q : Exit → Act → World → Prop) (w0 : World) (tail : List Oper) : List Oper → Env → Act → Prop
  | [], E, a => ∀ x, Cl w0 E x → wpList P ops Q tail a x
  | o :: rest, E, a => (∃ x, Cl w0 E x) → ∃ k, Runs P ops w0 (E.only ops o) o a k ∧ ∀ B, w0.heap.size ≤ B → wpLex P ops Q w0 tail rest (k.env o B E) (a.put o.dst (k.res o B))

theorem AO.lex {n g : Nat} {tail : List Oper} (hsel : Region.noSelect ops = true) (hQ : ∀ c a d v w, Q (.panic c) (a.put d v) w → Q (.panic c) a w) (hl : ordLate md ops n = true) (htail : ∀ j, tail[j]? = ops[n + j]?) (hg : tail.length = g) :
    ∀ (l : List Oper) (k : Nat) (listed : Array Bool) (E : Env) (a : Act), Closed md ops listed → (∀ j, j < l.length → l[j]? = ops[k + j]?) → k + l.length = n → ordHead md ops g l.length k listed = true →
    wpLex P ops Q w0 tail l E a → AO P md ops Q w0 n g l.length listed E a
  | [], k, listed, E, a, _, _, hk, hB, h => by
    have hkn : k = n := by simpa using hk
    subst hkn
    simp only [List.length_nil, ordHead, Bool.and_eq_true] at hB
    refine fun w hw => ⟨fun j hj => by simpa using List.all_eq_true.1 hB.2 j hj, ?_⟩
    subst hg
    exact wpAny_of_seq tail k listed a w htail hB.1 (h w hw)
  | o :: l, k, listed, E, a, hcl, hll, hk, hB, h => by
    simp only [List.length_cons] at hk
    simp only [List.length_cons, ordHead, Bool.and_eq_true] at hB
    have h0 : ops[k]? = some o := by simpa using (hll 0 (by simp)).symm
    by_cases hne : ∃ x, Cl w0 E x
    · obtain ⟨kd, hr, hrest⟩ := h hne
      refine AO.first h0 (by omega) (Region.noSelect_spec hsel) (fun c a v w => hQ c a o.dst v w) (fun t ot ht hot => ordLate_spec hl (by omega) h0 t ot ht hot) l.length listed E a hcl (Region.free_spec h0 hB.1.2) (by simpa using hB.1.1) hr fun B hBB => ?_
      exact AO.lex hsel hQ hl htail hg l (k + 1) _ _ _ (hcl.set (by simpa using hB.1.1)) (fun j hj => by have := hll (j + 1) (by simp; omega); simpa [Nat.add_assoc, Nat.add_comm 1 j] using this) (by omega) hB.2 (hrest B hBB)
    · exact fun w hw => absurd ⟨w, hw⟩ hne

theorem wp_region_ord {id : Nat} {a : Act} {w : World} {l : List Oper} (n : Nat) (hm : P.follows .mixedOrders = true) (hB : ordB .any l.toArray n = true)
    (hQ : ∀ c a d v w, Q (.panic c) (a.put d v) w → Q (.panic c) a w)
    (h : wpLex P l.toArray Q w.drew (l.drop n) (l.take n) Env.none a) : (Code.region id l.toArray true).wp P Q a w := by
  simp only [ordB, Bool.and_eq_true, decide_eq_true_eq] at hB
  obtain ⟨⟨⟨hsel, hn⟩, hl⟩, hh⟩ := hB
  have hn' : n ≤ l.length := by simpa using hn
  have htl : (l.take n).length = n := by simp; omega
  have hdl : (l.drop n).length = l.toArray.size - n := by simp
  have H := AO.lex (md := .any) (g := l.toArray.size - n) hsel hQ hl (fun j => by simp [List.getElem?_drop]) hdl (l.take n) 0 _ Env.none a (Closed.none _) (fun j hj => by
    have hj' : j < n := by rw [htl] at hj; exact hj
    simp [hj']) (by simpa using htl) (by rw [htl]; exact hh) h
  refine wp_region_any hm ?_
  have := AO.any _ _ _ _ w.drew H ⟨Below.refl _ _, fun s B o e => e.elim⟩
  rw [htl, show n + (l.toArray.size - n) = l.toArray.size by omega] at this
  exact this

/-! ### The moves of a walk -/
variable {tail rest : List Oper} {o : Oper} {a : Act}
/-- What stays so when memory grows. -/
def GrowsUp (R : World → Prop) : Prop := ∀ x y, R x → Below x.heap.size x y → R y
def GrE (w0 : World) (F : Env) (R : World → Prop) : Type := { x : World // Cl w0 F x ∧ R x }
@[go_sem] theorem GrE.cell {R : World → Prop} (g : GrE w0 F R) (b o : Nat) (h : b < w0.heap.size) : g.1.cell? ⟨b, o, none⟩ = w0.cell? ⟨b, o, none⟩ := g.2.1.below.cell (p := ⟨b, o, none⟩) h
@[go_sem] theorem GrE.frozen {R : World → Prop} (g : GrE w0 F R) (b o : Nat) (h : b < w0.heap.size) : g.1.frozen? ⟨b, o, none⟩ = w0.frozen? ⟨b, o, none⟩ := g.2.1.below.frozen (p := ⟨b, o, none⟩) h
theorem GrE.blk {R : World → Prop} (g : GrE w0 F R) {s B : Nat} {o : Obj} (h : F s B o) : g.1.heap[B]? = some o := (g.2.1.fact s B o h).2
theorem GrE.below {R : World → Prop} (g : GrE w0 F R) : Below w0.heap.size w0 g.1 := g.2.1.below
theorem GrE.call {R : World → Prop} (hR : GrowsUp R) {f : FuncId} {args : Array Value} {g : GrE w0 F R} {v : Value} (h : Calls P f args g.1 fun e w' => e = .returned v ∧ Below g.1.heap.size g.1 w') :
    Calls P f args g.1 fun e w' => e = .returned v ∧ ∃ k : GrE w0 F R, w' = k.1 :=
  h.mono fun _ w' ⟨he, hb⟩ => ⟨he, ⟨w', g.2.1.grow hb, hR _ _ g.2.2 hb⟩, rfl⟩
theorem GrE.same {R : World → Prop} {f : FuncId} {args : Array Value} {g : GrE w0 F R} {v : Value} (h : Calls P f args g.1 fun e w' => e = .returned v ∧ g.1 = w') :
    Calls P f args g.1 fun e w' => e = .returned v ∧ ∃ k : GrE w0 F R, w' = k.1 :=
  h.mono fun _ _ ⟨he, hb⟩ => ⟨he, g, hb.symm⟩

theorem quietUpon_mono {C D : World → Prop} {v : Value} {r : Result Next} (hCD : ∀ y, C y → D y) (h : Oper.quietUpon P C x v r) : Oper.quietUpon P D x v r := by
  cases r with
  | ok n w' =>
    cases n <;> simp only [Oper.quietUpon] at h ⊢
    case value => exact h
    case skip => exact h
    case enter f args => exact ⟨h.1, h.2.mono fun _ _ hh => ⟨hh.1, hCD _ hh.2⟩⟩
  | halt => simp only [Oper.quietUpon] at h

theorem wpLex_nil (h : ∀ x, Cl w0 E x → wpList P ops Q tail a x) : wpLex P ops Q w0 tail [] E a := h
theorem wpLex_skip (hw : Region.wanted o (yielded ops a.tmps) = false) (h : wpLex P ops Q w0 tail rest E (a.put o.dst undef)) : wpLex P ops Q w0 tail (o :: rest) E a :=
  fun _ => ⟨.inl undef, .inr ⟨hw, rfl⟩, fun _ _ => h⟩
theorem wpLex_fix (hw : Region.wanted o (yielded ops a.tmps) = true)
    (h : ∀ F : Env, Hid (∀ s B u, (o.looksAt ops).contains s = true → E s B u → F s B u) → ∀ R, GrowsUp R → Nonempty (GrE w0 F R) → ∀ K : Act → Prop, (∀ a', wpLex P ops Q w0 tail rest E a' → K a') → o.quiet P a (fun x => ∃ g : GrE w0 F R, x = g.1) K) :
    wpLex P ops Q w0 tail (o :: rest) E a := by
  rintro ⟨x0, hx0⟩
  replace h := h (E.only ops o) (fun s B u h1 h2 => ⟨h1, h2⟩)
  obtain ⟨v, hv, hk⟩ := h (fun _ => True) (fun _ _ _ _ => trivial) ⟨⟨x0, hx0.only o, trivial⟩⟩ (wpLex P ops Q w0 tail rest E) (fun _ h => h)
  refine ⟨.inl v, .inl ⟨hw, fun x hx => ?_⟩, fun _ _ => hk⟩
  have h1 := hv x ⟨⟨x, hx, trivial⟩, rfl⟩
  obtain ⟨u, hu, _⟩ := h (fun y => Below x.heap.size x y) (fun y z hy hz => hy.trans (hz.mono hy.size)) ⟨⟨x, hx, Below.refl _ _⟩⟩ (fun _ => True) (fun _ _ => trivial)
  have h2 := hu x ⟨⟨x, hx, Below.refl _ _⟩, rfl⟩
  have : v = u := quietUpon_det h1 h2
  subst this
  exact quietUpon_mono (fun y ⟨g, hg⟩ => hg ▸ g.2.2) h2
theorem wpLex_blk (hw : Region.wanted o (yielded ops a.tmps) = true) (obj : Obj) (hrun : ∀ x, Cl w0 (E.only ops o) x → (execOp a.eval o).run P x = .ok (.value (blkVal o x.heap.size)) (x.alloc obj))
    (h : ∀ B, w0.heap.size ≤ B → wpLex P ops Q w0 tail rest (E.upd o.dst B obj) (a.put o.dst (blkVal o B))) : wpLex P ops Q w0 tail (o :: rest) E a :=
  fun _ => ⟨.inr obj, ⟨hw, hrun⟩, h⟩
theorem blk_facts {w : World} {B : Nat} {cs : Array Value} {t : TypeId} (h : w.heap[B]? = some (.cells cs t (0, 0))) : (∀ j, w.cell? ⟨B, j, none⟩ = cs[j]?) ∧ (∀ j, w.frozen? ⟨B, j, none⟩ = false) :=
  ⟨fun j => cell_of_row w B j cs t (0, 0) h, fun j => by simp [World.frozen?, h]⟩
end
end Go.Proofs.Ytbdkoagagcemcaa

/- The walks of layer 25: counting, and sameness. -/
namespace Go.Proofs.Ytbdkoagagcemcaa.Pp
open Go.RowKit

set_option maxHeartbeats 2000000 in
set_option maxRecDepth 100000 in
theorem count_any (A : Option Addr) (c : Nat) (xs : List Int) (v : Int) (w : World) (hx : Ints w A c xs) (hn : xs.length ≤ 1000000) :
    Calls Try.prog 41 #[.slice A xs.length c, .int .i64 v] w fun e w' => e = .returned (.int .i64 (xs.count v : Nat)) ∧ w = w' := by
  have HX := Lib.hid hx
  clear hx
  go_enter Try.func41, Try.ntmps41
  go_wp2_with fail
  go_loop [5, 10] (fun n u => ∃ i : Nat, i ≤ xs.length ∧ u = .int .i64 i ∧ n = .int .i64 ((xs.take i).count v : Nat)) (fun _ u => xs.length - (intOf u).toNat)
  case atStart => exact ⟨0, Nat.zero_le _, rfl, rfl⟩
  case round =>
    obtain ⟨i, hil, rfl, rfl⟩ := hrel
    have hcl : (xs.take i).count v ≤ 1000000 := Nat.le_trans List.count_le_length (by rw [List.length_take]; omega)
    by_cases h1 : i < xs.length
    · obtain ⟨g, o, x, rfl, hg, hxi, hcell⟩ := HX.out.at_ h1
      have hs := Lib.hid (show (xs.take (i + 1)).count v = (xs.take i).count v + if x = v then 1 else 0 by rw [take_snocI xs i x hxi, count_snoc])
      clear hxi
      by_cases hxv : x = v
      · have q : (x == v) = true := by simp [hxv]
        have hs2 := Lib.hid (hs.out.trans (by rw [if_pos hxv]))
        clear hxv
        go_wp2
        go_round
        case rel => exact ⟨i + 1, by omega, by go_num, by rw [hs2.out]; go_num⟩
        case measure => simp [intOf]; omega
      · have q : (x == v) = false := by simp [hxv]
        have hs2 := Lib.hid (hs.out.trans (by rw [if_neg hxv, Nat.add_zero]))
        clear hxv
        go_wp2
        go_round
        case rel => exact ⟨i + 1, by omega, by go_num, by rw [hs2.out]⟩
        case measure => simp [intOf]; omega
    · have hfin := Lib.hid (show xs.take i = xs from List.take_of_length_le (by omega))
      rw [hfin.out]
      go_wp2
      go_ret
      exact ⟨rfl, rfl⟩

end Go.Proofs.Ytbdkoagagcemcaa.Pp
/- Maps of ints by ints that the call makes. -/
namespace Go.Proofs.Ytbdkoagagcemcaa.Pp
open Go.RowKit Go.Maps

theorem lawI : Keyed Try.prog 3 := int_keyed Try.underlying3
theorem zeroI (w : World) : (zeroValue 3).run Try.prog w = .ok (.int .i64 0) w := by kernel_rfl
theorem keyI {x : Int} (h : I64 x) : keyOf Try.prog 3 (.int .i64 x) = some (.int .i64 x) := keyOf_int_mk Try.underlying3 (WalkArith.wf_i64 h)
noncomputable abbrev RI := plainElem (H := Unit) Try.prog 3
abbrev OMap (w : World) (b n : Nat) (D : DataW Unit) : Prop := w.ownsMap Try.prog 3 RI b n D
/-- What a map reads as: at each key a number; 0 just where it has none. -/
def MapIs (D : DataW Unit) (f : Int → Int) : Prop := (∀ k, D.atKey (.int .i64 k) (.lit (.int .i64 0)) = .lit (.int .i64 (f k))) ∧ ∀ k, Maps.has D (.int .i64 k) = decide (f k ≠ 0)
theorem MapIs.empty : MapIs (.map []) (fun _ => 0) := ⟨fun _ => rfl, fun _ => rfl⟩
theorem MapIs.put {D : DataW Unit} {f : Int → Int} (h : MapIs D f) (hD : IsMap D) (k v : Int) (hv : v ≠ 0) : MapIs (D.put (.int .i64 k) (.lit (.int .i64 v))) (fun x => if x = k then v else f x) := by
  refine ⟨fun x => ?_, fun x => ?_⟩
  · by_cases e : x = k
    · subst e; rw [atKey_put_same (k := .int .i64 x) hD (show WideAt.IsKeyLit (.int .i64 x) from trivial)]; simp
    · rw [atKey_put_other (fun h => e (by injection h)), h.1 x]; simp [e]
  · by_cases e : x = k
    · subst e; rw [has_put_same (k := .int .i64 x) hD (show WideAt.IsKeyLit (.int .i64 x) from trivial)]; simp [hv]
    · rw [has_put_other (fun h => e (by injection h)), h.2 x]; simp [e]
theorem MapIs.same {D : DataW Unit} {f g : Int → Int} (h : MapIs D f) (e : ∀ x, f x = g x) : MapIs D g := by
  have : f = g := funext e
  rw [← this]; exact h
set_option maxRecDepth 100000 in
/-- What a look-up comes to. -/
theorem look_run {w : World} {b n : Nat} {D : DataW Unit} {f : Int → Int} (h : OMap w b n D) (hm : MapIs D f) {k : Int} (hk : I64 k) : (Instr.lookup 92 (.map (some b)) (.int .i64 k) false).run Try.prog w = .ok (.int .i64 (f k)) w := by
  obtain ⟨c, hr, hat, _⟩ := h.lookup_int lawI Try.underlying92 Try.underlying3 (zeroI w) (keyI hk)
  rw [hm.1 k] at hat
  injection hat with hat
  injection hat with _ hat
  rw [hr, ← hat]
theorem OMap.keep {w w' : World} {b n : Nat} {D : DataW Unit} (h : OMap w b n D) (k : Below w.heap.size w w') : OMap w' b n D := h.kept (grownBy_below k none) (by simp)
end Go.Proofs.Ytbdkoagagcemcaa.Pp
/- The walk of layer 25: places. -/
namespace Go.Proofs.Ytbdkoagagcemcaa.Pp
open Go.RowKit Go.Maps

theorem nodup_snoc (l : List Int) (x : Int) : (l ++ [x]).Nodup ↔ l.Nodup ∧ x ∉ l := by
  rw [List.nodup_append]
  simp
  intro _
  exact ⟨fun h hx => h x hx rfl, fun h a ha e => h (e ▸ ha)⟩
/-- What the places' map is. -/
def PMap (w : World) (b : Nat) (fs : List Int) : Prop :=
  ∃ D, OMap w b fs.length D ∧ MapIs D (fun k => (Po.at fs k : Nat)) ∧ (Maps.size D < fs.length ↔ ¬ fs.Nodup)
theorem PMap.keep {w w' : World} {b : Nat} {fs : List Int} (h : PMap w b fs) (k : Below w.heap.size w w') : PMap w' b fs := by
  obtain ⟨D, h1, h2⟩ := h
  exact ⟨D, h1.keep k, h2⟩

set_option maxHeartbeats 4000000 in
set_option maxRecDepth 100000 in
theorem places_any (A : Option Addr) (c : Nat) (fs : List Int) (w : World) (hx : Ints w A c fs) (hI : ∀ x ∈ fs, I64 x) (hn : fs.length ≤ 1000000) :
    Calls Try.prog 80 #[.slice A fs.length c] w fun e w' => e = .returned (.map (some w.heap.size)) ∧ PMap w' w.heap.size fs ∧ Below w.heap.size w w' := by
  have hmm := @run_makeMap Try.prog
  have HX := Lib.hid hx
  have HI := Lib.hid hI
  clear hx hI
  go_enter Try.func80, Try.ntmps80
  go_wp2_with fail
  go_loopw [9] (fun u wr => ∃ (i : Nat) (D : DataW Unit), i ≤ fs.length ∧ u = .int .i64 i ∧ OMap wr w.heap.size i D ∧ MapIs D (fun k => (Po.at (fs.take i) k : Nat)) ∧ Maps.size D ≤ i ∧ (Maps.size D = i ↔ (fs.take i).Nodup) ∧ Below w.heap.size w wr) (fun u _ => fs.length - (intOf u).toNat)
  case atStart => exact ⟨0, .map [], Nat.zero_le _, rfl, World.ownsMap_made _ _ _ _, MapIs.empty, Nat.le_refl _, by simp [Maps.size], (Below.refl _ _).alloc (Nat.le_refl _) _⟩
  case round =>
    obtain ⟨i, D, hil, rfl, hown, hmap, hsz, hnd, hB⟩ := hrel
    have HB := Lib.hid hB
    have HO := Lib.hid hown
    have HM := Lib.hid hmap
    have HN := Lib.hid hnd
    by_cases h1 : i < fs.length
    · obtain ⟨g, o, x, rfl, hg, hxi, hcell⟩ := (HX.out.grow hB).at_ h1
      have hIx := HI.out x (List.mem_of_getElem? hxi)
      have hlook := look_run hown hmap hIx
      have htk := Lib.hid (take_snocI fs i x hxi)
      have hli : (fs.take i).length = i := by rw [List.length_take]; omega
      have HIx := Lib.hid hIx
      have hpl : Po.at (fs.take i) x ≤ i := by have := Po.at_le (fs.take i) x; omega
      clear hB hown hmap hnd hxi hIx
      by_cases h0 : Po.at (fs.take i) x = 0
      · have q : (((Po.at (fs.take i) x : Nat) : Int) == 0) = true := by simp [h0]
        have hnew := Lib.hid (show ∀ k, (if k = x then ((i + 1 : Nat) : Int) else ((Po.at (fs.take i) k : Nat) : Int)) = ((Po.at (fs.take (i + 1)) k : Nat) : Int) from fun k => by
          rw [htk.out, Po.at_snoc, hli]
          by_cases e : k = x
          · subst e; rw [if_pos rfl, h0]; simp
          · rw [if_neg e]
            have e2 : ¬ x = k := fun h => e h.symm
            rw [if_neg e2]
            split
            · rfl
            · rename_i h3; rw [Classical.not_not.1 h3])
        have hnotin := Lib.hid (Po.at_zero.1 h0)
        have hhas : Maps.has D (.int .i64 x) = false := by rw [HM.out.2 x]; simp [h0]
        have hsp := size_put (HO.out.tidy lawI) (k := .int .i64 x) (.lit (.int .i64 ((i + 1 : Nat) : Int)))
        rw [hhas] at hsp
        have HSP := Lib.hid hsp
        clear h0 hhas hsp
        go_wp2_with (first | (at_mapUpdate; refine wpList_mapUpdate_own _ rfl _ _ _ 92 rfl 3 3 lawI Try.underlying92 _ w.heap.size i _ rfl HO.out (by unfold maxLen; omega) _ _ _ rfl rfl (keyI HIx.out) (.lit (.int .i64 ((i + 1 : Nat) : Int))) [] (plainElem_int Try.underlying3 (WalkArith.wf_i64 (by omega))) ?_; intro w1 hown1 hgrow1) | go_in)
        have hO1 := Lib.hid hown1
        have hB1 := Lib.hid (HB.out.grown hgrow1 HB.out.size (fun j hj => by cases hj; exact Nat.le_refl _))
        clear hown1 hgrow1 hlook
        go_wp2
        go_roundw
        case rel =>
          refine ⟨i + 1, _, by omega, by go_num, hO1.out, (HM.out.put HO.out.isMap x _ (by omega)).same hnew.out, ?_, ?_, hB1.out⟩
          · rw [HSP.out]; simp; omega
          · rw [HSP.out, htk.out, nodup_snoc, ← HN.out]
            simp [hnotin.out]
        case measure => simp [intOf]; omega
      · have q : (((Po.at (fs.take i) x : Nat) : Int) == 0) = false := by simp [h0]
        have hnew := Lib.hid (show ∀ k, ((Po.at (fs.take i) k : Nat) : Int) = ((Po.at (fs.take (i + 1)) k : Nat) : Int) from fun k => by
          rw [htk.out, Po.at_snoc]
          by_cases e : Po.at (fs.take i) k = 0
          · have e2 : ¬ x = k := fun h => h0 (by rw [h]; exact e)
            simp [e, e2]
          · simp [e])
        have hin := Lib.hid (show x ∈ fs.take i from Classical.not_not.1 (fun h => h0 (Po.at_zero.2 h)))
        clear h0
        go_wp2
        go_roundw
        case rel =>
          refine ⟨i + 1, D, by omega, by go_num, HO.out.mono (by omega), HM.out.same hnew.out, by omega, ?_, HB.out⟩
          rw [htk.out, nodup_snoc]
          simp [hin.out]
          omega
        case measure => simp [intOf]; omega
    · have hfin : fs.take i = fs := List.take_of_length_le (by omega)
      obtain rfl : i = fs.length := by omega
      rw [hfin] at hmap hnd
      have hP := Lib.hid (show PMap wr w.heap.size fs from ⟨D, hown, hmap, by rw [← hnd]; omega⟩)
      clear hown hmap hnd hB
      go_wp2
      go_ret
      exact ⟨rfl, hP.out, HB.out⟩
end Go.Proofs.Ytbdkoagagcemcaa.Pp
/- The walks of layer 25: splitting. -/
namespace Go.Proofs.Ytbdkoagagcemcaa.Pp
open Go.RowKit Go.Maps

/-- One number on, onto a row of the call's own. -/
theorem wpList_app1 {w : World} {ops : Array Oper} {rest : List Oper} {o : Oper} {a : Act} {Q : Exit → Act → World → Prop} (hgd : o.guard = none) (s x : Operand)
    (ho : o.op = .call { callee := .builtin .append, args := #[s, x], argTypes := #[22, 22] })
    (base : Nat) (v : Value) (xs : List Int) (hv : a.eval s = v) (hown : IRow w base v xs) (B : Nat) (n : Int) (t : TypeId) (fr : Nat × Nat) (hX : a.eval x = .slice (some ⟨B, 0, none⟩) 1 1)
    (hb : w.heap[B]? = some (.cells #[.int .i64 n] t fr)) (hn : xs.length ≤ 1000000) (hbase : base ≤ w.heap.size)
    (h : ∀ v' w', IRow w' base v' (xs ++ [n]) → Hop w w' v.ownBlock v'.ownBlock → wpList Try.prog ops Q rest (a.put o.dst v') w') : wpList Try.prog ops Q (o :: rest) a w := by
  obtain ⟨i0, hi, hz0, hz1, hz2⟩ := info_parts infoInt
  refine wpList_append_row hgd s x 22 22 ho base 3 i0 (.int .i64 0) 1 8 Try.underlying22 hi hz0 hz1 hz2 rfl v _ _ hv hown _ 1 [.int .i64 n] hX (fun v' w' h1 h2 => h v' w' (IRow.app (ys := [n]) h1 rfl) h2) ?_ ?_ ?_ hbase
  · exact src_block Try.underlying22 1 1 1 _ #[.int .i64 n] _ _ hb rfl (by simp [Value.oneCell'])
  · unfold maxLen; omega
  · omega
theorem _root_.Go.Proofs.Ytbdkoagagcemcaa.IRow.base {w : World} {base base' : Nat} {v : Value} {xs : List Int} (h : IRow w base v xs) (hb : base' ≤ base) : IRow w base' v xs := by
  refine ⟨h.1, ?_⟩
  rcases h.2 with hn | ⟨g, cap, cur, hv, hbg, rest⟩
  · exact .inl hn
  · exact .inr ⟨g, cap, cur, hv, Nat.le_trans hb hbg, rest⟩
/-- Two rows that share no block. -/
def Apart (v1 v2 : Value) : Prop := ∀ k, v1.ownBlock = some k → v2.ownBlock ≠ some k
theorem Apart.nil (v : Value) : Apart (.slice none 0 0) v := fun _ h => by simp [Value.ownBlock] at h
theorem Apart.symm {v1 v2 : Value} (h : Apart v1 v2) : Apart v2 v1 := fun k h2 h1 => h k h1 h2
theorem _root_.Go.Proofs.Ytbdkoagagcemcaa.IRow.other {w w' : World} {base : Nat} {v1 v1' v2 : Value} {xs : List Int} (h : IRow w base v2 xs) (hop : Hop w w' v1.ownBlock v1'.ownBlock) (ap : Apart v1 v2) : IRow w' base v2 xs ∧ Apart v1' v2 := by
  refine ⟨World.ownsRow.kept h hop.1 ?_, fun k hk h2 => ?_⟩
  · cases h2 : v2.ownBlock with
    | none => exact .inl rfl
    | some k => exact .inr (fun e => ap k e.symm h2)
  · rcases hop.2 with e | ⟨g, hg, e⟩
    · rw [e] at hk; exact ap k hk h2
    · rw [e] at hk
      cases hk
      have := (World.ownsRow.lt h k h2).2
      omega
theorem _root_.Go.Proofs.Ytbdkoagagcemcaa.IRow.hop_below {w w' : World} {base : Nat} {v v' : Value} {xs : List Int} (h : IRow w base v xs) (hop : Hop w w' v.ownBlock v'.ownBlock) {B : Nat} {a : World} (hB : Below B a w) (h1 : B ≤ a.heap.size) (h2 : B ≤ base) : Below B a w' :=
  hB.trans (hop.below (Nat.le_trans h1 hB.size) (fun _ e => Nat.le_trans h2 (h.base_le e)))

/-- What the call comes to. -/
def SplitRes (fs l : List Int) (w : World) (e : Ending) (w' : World) : Prop :=
  ∃ v1 v2, e = .returned (.tuple #[v1, v2]) ∧ IRow w' w.heap.size v1 (Po.tokens fs l) ∧ IRow w' w.heap.size v2 (Po.left fs l) ∧ Below w.heap.size w w'

set_option maxHeartbeats 8000000 in
set_option maxRecDepth 100000 in
theorem split_any (A B : Option Addr) (c d : Nat) (l fs : List Int) (w : World) (hx : Ints w A c l) (hy : Ints w B d fs) (hI : ∀ x ∈ l, I64 x) (hJ : ∀ x ∈ fs, I64 x) (hn : l.length ≤ 100000) (hm : fs.length ≤ 100000) :
    Calls Try.prog 52 #[.slice A l.length c, .slice B fs.length d] w (SplitRes fs l w) := by
  have HX := Lib.hid hx
  have HI := Lib.hid hI
  have HPL := Lib.hid (places_any B d fs w hy hJ (by omega))
  clear hx hy hI hJ
  go_enter Try.func52, Try.ntmps52
  go_wp2_with fail
  refine HPL.out.mono ?_
  rintro e w0 ⟨rfl, hP, hb0⟩
  obtain ⟨D, hO, hMI, _⟩ := hP
  have HO := Lib.hid hO
  have HM := Lib.hid hMI
  have HB0 := Lib.hid hb0
  have hlt0 := hO.lt
  clear hO hMI hb0 HPL
  go_wp2_with fail
  go_loopw [4, 5, 13] (fun v1 v2 u wr => ∃ i : Nat, i ≤ l.length ∧ u = .int .i64 i ∧ IRow wr w0.heap.size v1 (Po.tokens fs (l.take i)) ∧ IRow wr w0.heap.size v2 (Po.left fs (l.take i)) ∧ Apart v1 v2 ∧ Below w0.heap.size w0 wr) (fun _ _ u _ => l.length - (intOf u).toNat)
  case atStart => exact ⟨0, Nat.zero_le _, rfl, IRow.nil _ _, IRow.nil _ _, Apart.nil _, Below.refl _ _⟩
  case round =>
    obtain ⟨i, hil, rfl, hr1, hr2, hap, hB⟩ := hrel
    have HB := Lib.hid hB
    have HR1 := Lib.hid hr1
    have HR2 := Lib.hid hr2
    have HAP := Lib.hid hap
    have hlt : (Po.tokens fs (l.take i)).length ≤ l.length := by unfold Po.tokens; rw [List.length_map, List.length_take]; omega
    have hll : (Po.left fs (l.take i)).length ≤ l.length := by unfold Po.left; exact Nat.le_trans (List.length_filter_le _ _) (by rw [List.length_take]; omega)
    by_cases h1 : i < l.length
    · obtain ⟨g, o, x, rfl, hg, hxi, hcell⟩ := (HX.out.grow (Below.after' HB0.out (hB.mono (Nat.le_refl _)) (Nat.le_refl _))).at_ h1
      have hIx := HI.out x (List.mem_of_getElem? hxi)
      have htk := Lib.hid (take_snocI l i x hxi)
      have hO2 := Lib.hid (HO.out.keep (hB.mono (Nat.le_refl _)))
      have hlook := look_run hO2.out HM.out hIx
      have hIx2 := Lib.hid hIx
      have hzr := hB.size
      have hT := Lib.hid (show Po.tokens fs (l.take (i + 1)) = Po.tokens fs (l.take i) ++ [(Po.at fs x : Int)] by rw [htk.out, Po.tokens_snoc])
      clear hB hr1 hr2 hap hxi hIx
      by_cases h0 : Po.at fs x = 0
      · have q : (((Po.at fs x : Nat) : Int) == 0) = true := by simp [h0]
        have q2 : (Po.at fs x == 0) = true := by simp [h0]
        have hL := Lib.hid (show Po.left fs (l.take (i + 1)) = Po.left fs (l.take i) ++ [x] by rw [htk.out, Po.left_snoc, if_pos h0])
        clear h0

        go_upto_region 7 with ((at_builtin; refine wpList_app1 rfl _ _ rfl w0.heap.size u4 _ rfl (HR1.out.grow ((Below.refl _ _).alloc (Nat.le_refl _) _)) wr.heap.size ((Po.at fs x : Nat) : Int) _ _ rfl (heap_alloc_new _ _) (by omega) (by simp; omega) ?_; intro v' w1 hown1 hhop1; have hR1 := Lib.hid hown1; have hR2 := Lib.hid ((HR2.out.grow ((Below.refl _ _).alloc (Nat.le_refl _) (.cells #[.int .i64 ((Po.at fs x : Nat) : Int)] 3))).other hhop1 HAP.out); have HB1 := Lib.hid ((HR1.out.grow ((Below.refl _ _).alloc (Nat.le_refl _) (.cells #[.int .i64 ((Po.at fs x : Nat) : Int)] 3))).hop_below hhop1 (HB.out.alloc hzr _) (Nat.le_refl _) (Nat.le_refl _)); have hlook1 := look_run (HO.out.keep HB1.out) HM.out hIx2.out; have hz1 := HB1.out.size; clear hown1 hhop1 hlook))
        go_wp2_with (at_builtin; (refine wpList_app1 rfl _ _ rfl w0.heap.size u5 _ rfl (hR2.out.1.grow ((Below.refl _ _).alloc (Nat.le_refl _) _)) w1.heap.size x _ _ rfl (heap_alloc_new _ _) (by omega) (by simp; omega) ?_))
        intro v2' w2 hown2 hhop2
        have hS2 := Lib.hid hown2
        have hS1 := Lib.hid ((hR1.out.grow ((Below.refl _ _).alloc (Nat.le_refl _) (.cells #[.int .i64 x] 3))).other hhop2 hR2.out.2.symm)
        have HB2 := Lib.hid ((hR2.out.1.grow ((Below.refl _ _).alloc (Nat.le_refl _) (.cells #[.int .i64 x] 3))).hop_below hhop2 (HB1.out.alloc hz1 _) (Nat.le_refl _) (Nat.le_refl _))
        clear hown2 hhop2 hlook1
        go_wp2_with fail
        go_roundw
        case rel => exact ⟨i + 1, by omega, by go_num, by rw [hT.out]; exact hS1.out.1, by rw [hL.out]; exact hS2.out, hS1.out.2.symm, HB2.out⟩
        case measure => simp [intOf]; omega
      · have q : (((Po.at fs x : Nat) : Int) == 0) = false := by simp [h0]
        have q2 : (Po.at fs x == 0) = false := by simp [h0]
        have hL := Lib.hid (show Po.left fs (l.take (i + 1)) = Po.left fs (l.take i) by rw [htk.out, Po.left_snoc, if_neg h0, List.append_nil])
        clear h0

        go_wp2_with (first | (at_builtin; refine wpList_app1 rfl _ _ rfl w0.heap.size u4 _ rfl (HR1.out.grow ((Below.refl _ _).alloc (Nat.le_refl _) _)) wr.heap.size ((Po.at fs x : Nat) : Int) _ _ rfl (heap_alloc_new _ _) (by omega) (by simp; omega) ?_; intro v' w1 hown1 hhop1; have hR1 := Lib.hid hown1; have hR2 := Lib.hid ((HR2.out.grow ((Below.refl _ _).alloc (Nat.le_refl _) (.cells #[.int .i64 ((Po.at fs x : Nat) : Int)] 3))).other hhop1 HAP.out); have HB1 := Lib.hid ((HR1.out.grow ((Below.refl _ _).alloc (Nat.le_refl _) (.cells #[.int .i64 ((Po.at fs x : Nat) : Int)] 3))).hop_below hhop1 (HB.out.alloc hzr _) (Nat.le_refl _) (Nat.le_refl _)); have hlook1 := look_run (HO.out.keep HB1.out) HM.out hIx2.out; have hz1 := HB1.out.size; clear hown1 hhop1 hlook) | fail)
        go_roundw
        case rel => exact ⟨i + 1, by omega, by go_num, by rw [hT.out]; exact hR1.out, by rw [hL.out]; exact hR2.out.1, hR2.out.2, HB1.out⟩
        case measure => simp [intOf]; omega
    · have hfin : l.take i = l := List.take_of_length_le (by omega)
      rw [hfin] at hr1 hr2
      have HJ := Lib.hid (Below.after' HB0.out hB (Nat.le_refl _))
      have hbase := HB0.out.size
      have HS1 := Lib.hid hr1
      have HS2 := Lib.hid hr2
      clear hr1 hr2 hB hap
      go_wp2
      go_ret2
      exact ⟨_, _, rfl, HS1.out.base hbase, HS2.out.base hbase, HJ.out⟩
end Go.Proofs.Ytbdkoagagcemcaa.Pp
/- The walk of layer 25's reference: splitting. -/
namespace Go.Proofs.Ytbdkoagagcemcaa.Pp
open Go.RowKit Go.Maps

/-- The place among the favorites from i on. -/
def Po.from (fs : List Int) (v : Int) (i : Nat) : Nat := if Po.at (fs.drop i) v = 0 then 0 else Po.at (fs.drop i) v + i
theorem Po.from_end (fs : List Int) (v : Int) : Po.from fs v fs.length = 0 := by unfold Po.from; rw [List.drop_length]; rfl
theorem Po.from_zero (fs : List Int) (v : Int) : Po.from fs v 0 = Po.at fs v := by unfold Po.from; rw [List.drop_zero]; split <;> omega
theorem Po.from_step {fs : List Int} {i : Nat} {f : Int} (h : fs[i]? = some f) (v : Int) : Po.from fs v i = if f = v then i + 1 else Po.from fs v (i + 1) := by
  obtain ⟨h1, rfl⟩ := List.getElem?_eq_some_iff.1 h
  unfold Po.from
  rw [List.drop_eq_getElem_cons h1, Po.at_cons]
  by_cases e : fs[i] = v
  · simp [e]; omega
  · simp only [e, if_false]
    by_cases h0 : Po.at (fs.drop (i + 1)) v = 0
    · simp [h0]
    · simp [h0]; omega
theorem Po.from_le (fs : List Int) (v : Int) (i : Nat) (hi : i ≤ fs.length) : Po.from fs v i ≤ fs.length := by
  have := Po.at_le (fs.drop i) v
  rw [List.length_drop] at this
  unfold Po.from
  split <;> omega

end Go.Proofs.Ytbdkoagagcemcaa.Pp
/- The walks of layer 25: check. -/
namespace Go.Proofs.Ytbdkoagagcemcaa.Pp
open Go.RowKit Go.Maps

/-- A number that an int holds. -/
def nx (x : Int) : Int := if -9223372036854775808 ≤ x ∧ x ≤ 9223372036854775807 then x else 0
theorem nx_in (x : Int) : I64 (nx x) := by
  unfold nx I64
  split
  · assumption
  · omega
theorem nx_same {x : Int} (h : I64 x) : nx x = x := if_pos h
theorem any_nx (fs : List Int) : ∀ (rs : List Int), (∀ x ∈ rs, I64 x) → (rs.any fun x => decide (0 < Po.at fs (nx x))) = rs.any fun x => decide (0 < Po.at fs x)
  | [], _ => rfl
  | r :: rs, h => by rw [List.any_cons, List.any_cons, any_nx fs rs (fun x hx => h x (List.mem_cons_of_mem _ hx)), nx_same (h r (List.mem_cons_self ..))]

set_option maxHeartbeats 2000000 in
theorem chk1_at (fs : List Int) (b B : Nat) (w : World) (hP : PMap w b fs) (hB : B < w.heap.size) (hc : w.cell? ⟨B, 0, none⟩ = some (.map (some b))) :
    PredAt Try.prog 100 #[.pointer (some ⟨B, 0, none⟩)] (fun x : Int => .int .i64 (nx x)) (fun x => decide (0 < Po.at fs (nx x))) w := fun W x hb => by
  obtain ⟨D, hO, hM, _⟩ := hP.keep hb
  have hl := look_run hO hM (nx_in x)
  have hcell : W.cell? ⟨B, 0, none⟩ = some (.map (some b)) := (hb.cell (p := ⟨B, 0, none⟩) hB).trans hc
  show Calls Try.prog 100 #[.int .i64 (nx x), .pointer (some ⟨B, 0, none⟩)] W _
  clear hO hM hb hc hP
  go_enter Try.func100, Try.ntmps100
  go_wp2
  go_ret
  exact ⟨rfl, 0, rfl⟩

theorem contains_any (A : Option Addr) (c : Nat) (fs rs : List Int) (b B : Nat) (w : World) (hx : Ints w A c rs) (hI : ∀ x ∈ rs, I64 x) (hn : rs.length ≤ 1000000) (hP : PMap w b fs) (hB : B < w.heap.size) (hc : w.cell? ⟨B, 0, none⟩ = some (.map (some b))) :
    Calls Try.prog 99 #[.slice A rs.length c, .func (.func 100) #[] #[.pointer (some ⟨B, 0, none⟩)]] w fun e w' => e = .returned (.bool (rs.any fun x => decide (0 < Po.at fs x))) ∧ Below w.heap.size w w' := by
  by_cases h0 : rs.length = 0
  · obtain rfl := List.eq_nil_of_length_eq_zero h0
    refine Calls.mono (AnyE.slices_ContainsFunc_empty Try.conA A c (.func (.func 100) #[] #[.pointer (some ⟨B, 0, none⟩)]) w) ?_
    rintro e w' ⟨rfl, rfl⟩
    exact ⟨rfl, Below.refl _ _⟩
  · obtain ⟨g, o, rfl, hg, hcell⟩ := hx.2 (by omega)
    have hget : ∀ j, j < rs.length → rs[j]? = some rs[j]! := fun j hj => by rw [List.getElem!_eq_getElem?_getD, List.getElem?_eq_getElem hj]; rfl
    have eg : ∀ args w, (callFunc 100 args).run Try.prog w = .ok (.enter 100 args) w := enters_of Try.func100 (by kernel_rfl) rfl
    have hcon := AnyE.slices_ContainsFunc Try.conA (fun x : Int => .int .i64 (nx x)) (fun x => decide (0 < Po.at fs (nx x))) 100 #[.pointer (some ⟨B, 0, none⟩)] eg g o rs.length c rs w (chk1_at fs b B w hP hB hc) (Nat.le_refl _) (by omega)
      (fun j hj => by
        have := hcell j _ (hget j hj)
        rw [this, nx_same (hI _ (List.mem_of_getElem? (hget j hj)))])
    refine hcon.mono ?_
    rintro e w' ⟨rfl, q, rfl⟩
    refine ⟨?_, below_drewN' (Below.refl _ _) q⟩
    rw [List.take_length]
    rw [any_nx fs rs hI]

def Po.bad (fs ts : List Int) : Bool := ts.any fun t => decide (t < 0) || decide ((fs.length : Int) < t)
def Po.twice (fs rs : List Int) : Bool := !decide fs.Nodup || rs.any fun x => decide (0 < Po.at fs x)
/-- Why a row is not told, or nought. -/
def Po.err (fs ts rs : List Int) : Int := if Po.bad fs ts then 5 else if Po.twice fs rs then 10 else if rs.length < ts.count 0 then 6 else if ts.count 0 < rs.length then 2 else 0

set_option maxHeartbeats 4000000 in
set_option maxRecDepth 100000 in
theorem check_any (A B C : Option Addr) (c d k : Nat) (fs ts rs : List Int) (w : World) (hx : Ints w A c fs) (hy : Ints w B d ts) (hz : Ints w C k rs) (hI : ∀ x ∈ fs, I64 x) (hJ : ∀ x ∈ rs, I64 x)
    (hn : fs.length ≤ 100000) (hm : ts.length ≤ 100000) (hl : rs.length ≤ 100000) :
    Calls Try.prog 81 #[.slice A fs.length c, .slice B ts.length d, .slice C rs.length k] w fun e w' => e = .returned (.int .i64 (Po.err fs ts rs)) ∧ Below w.heap.size w w' := by
  have HY := Lib.hid hy
  have HZ := Lib.hid hz
  have HJ := Lib.hid hJ
  have HPL := Lib.hid (places_any A c fs w hx hI (by omega))
  clear hx hy hz hI hJ
  go_enter Try.func81, Try.ntmps81
  go_wp2_with fail
  refine HPL.out.mono ?_
  rintro e w0 ⟨rfl, hP, hb0⟩
  go_wp2_with fail
  obtain ⟨wa, hwa⟩ : ∃ wa : World, wa = w0.alloc (.cells #[.map (some w.heap.size)] 92) := ⟨_, rfl⟩
  have hcell : wa.cell? ⟨w0.heap.size, 0, none⟩ = some (.map (some w.heap.size)) := by rw [hwa]; simp
  have hz1 : w0.heap.size < wa.heap.size := by rw [hwa]; simp
  have hb1 : Below w0.heap.size w0 wa := by rw [hwa]; exact (Below.refl _ _).alloc (Nat.le_refl _) _
  have HB := Lib.hid (Below.after' hb0 hb1 (Nat.le_refl _))
  have HP := Lib.hid (hP.keep hb1)
  rw [← hwa]
  have HYa := Lib.hid (HY.out.grow HB.out)
  have HZa := Lib.hid (HZ.out.grow HB.out)
  clear hwa hb0 hb1 hP HPL HY HZ
  go_loop [8, 16] (fun n u => ∃ i : Nat, i ≤ ts.length ∧ u = .int .i64 i ∧ n = .int .i64 ((ts.take i).count 0 : Nat) ∧ Po.bad fs (ts.take i) = false) (fun _ u => ts.length - (intOf u).toNat)
  case atStart => exact ⟨0, Nat.zero_le _, rfl, rfl, rfl⟩
  case round =>
    obtain ⟨i, hil, rfl, rfl, hbad⟩ := hrel
    have HN := Lib.hid hbad
    have hcl : (ts.take i).count 0 ≤ 1000000 := Nat.le_trans List.count_le_length (by rw [List.length_take]; omega)
    by_cases h1 : i < ts.length
    · obtain ⟨g, o, x, rfl, hg, hxi, hct⟩ := HYa.out.at_ h1
      have htk := Lib.hid (take_snocI ts i x hxi)
      have hmem := Lib.hid (List.mem_of_getElem? hxi)
      have hs := Lib.hid (show (ts.take (i + 1)).count 0 = (ts.take i).count 0 + if x = 0 then 1 else 0 by rw [htk.out, count_snoc])
      have hbd := Lib.hid (show Po.bad fs (ts.take (i + 1)) = (decide (x < 0) || decide ((fs.length : Int) < x)) by
        rw [htk.out]; unfold Po.bad; rw [List.any_append]
        have := HN.out; unfold Po.bad at this; rw [this]; simp)
      clear hxi hbad
      by_cases hneg : x < 0
      · have q : decide (x < 0) = true := by simp [hneg]
        have hfin := Lib.hid (show Po.err fs ts rs = 5 from if_pos (List.any_eq_true.2 ⟨x, hmem.out, by simp [hneg]⟩))
        clear hneg
        go_wp2
        go_ret
        exact ⟨by rw [hfin.out]; rfl, HB.out⟩
      · have q : decide (x < 0) = false := by simp [hneg]
        by_cases hbig : (fs.length : Int) < x
        · have q2 : decide ((fs.length : Int) < x) = true := by simp [hbig]
          have hfin := Lib.hid (show Po.err fs ts rs = 5 from if_pos (List.any_eq_true.2 ⟨x, hmem.out, by simp [hbig]⟩))
          clear hneg hbig
          go_wp2
          go_ret
          exact ⟨by rw [hfin.out]; rfl, HB.out⟩
        · have q2 : decide ((fs.length : Int) < x) = false := by simp [hbig]
          have hnb := Lib.hid (hbd.out.trans (by rw [q, q2, Bool.or_false]))
          clear hneg hbig
          by_cases hx0 : x = 0
          · have q3 : (x == 0) = true := by simp [hx0]
            have hs2 := Lib.hid (hs.out.trans (by rw [if_pos hx0]))
            clear hx0
            go_wp2
            go_round
            case rel => exact ⟨i + 1, by omega, by go_num, by rw [hs2.out]; rfl, hnb.out⟩
            case measure => simp [intOf]; omega
          · have q3 : (x == 0) = false := by simp [hx0]
            have hs2 := Lib.hid (hs.out.trans (by rw [if_neg hx0, Nat.add_zero]))
            clear hx0
            go_wp2
            go_round
            case rel => exact ⟨i + 1, by omega, by go_num, by rw [hs2.out], hnb.out⟩
            case measure => simp [intOf]; omega
    · have hfin : ts.take i = ts := List.take_of_length_le (by omega)
      rw [hfin] at hbad hcl
      rw [hfin]
      have HE := Lib.hid (show Po.err fs ts rs = if Po.twice fs rs then 10 else if rs.length < ts.count 0 then 6 else if ts.count 0 < rs.length then 2 else 0 from if_neg (by rw [hbad]; simp))
      have HC := Lib.hid (contains_any C k fs rs w.heap.size w0.heap.size wa HZa.out HJ.out (by omega) HP.out hz1 hcell)
      obtain ⟨D, hO, hM, hD⟩ := HP.out
      have HO := Lib.hid hO
      have HD := Lib.hid hD
      have HNB := Lib.hid (HB.out)
      clear hfin hbad HN HYa hO hM hD
      by_cases hdl : Maps.size D < fs.length
      · have q : decide (Maps.size D < fs.length) = true := by simp [hdl]
        have hfin := Lib.hid (HE.out.trans (if_pos (by unfold Po.twice; rw [decide_eq_false (HD.out.1 hdl)]; rfl)))
        clear hdl
        go_wp2_with (at_len; refine wpList_len_own _ rfl _ _ rfl _ _ Try.underlying92 _ _ _ _ rfl HO.out ?_)
        go_ret
        exact ⟨by rw [hfin.out]; rfl, HB.out⟩
      · have q : decide (Maps.size D < fs.length) = false := by simp [hdl]
        have hnd := Lib.hid (show fs.Nodup from Classical.not_not.1 (fun h => hdl (HD.out.2 h)))
        clear hdl
        cases hany : rs.any (fun x => decide (0 < Po.at fs x)) with
        | true =>
          have hfin := Lib.hid (HE.out.trans (if_pos (by unfold Po.twice; rw [hany, Bool.or_true])))
          rw [hany] at HC
          clear hany
          go_wp2_with (at_len; refine wpList_len_own _ rfl _ _ rfl _ _ Try.underlying92 _ _ _ _ rfl HO.out ?_)
          refine HC.out.mono ?_
          rintro e w1 ⟨rfl, hb1⟩
          have HB1 := Lib.hid (Below.after' HB.out hb1 (by have := HB.out.size; omega))
          clear hb1
          go_wp2
          go_ret
          exact ⟨by rw [hfin.out]; rfl, HB1.out⟩
        | false =>
          have hfin := Lib.hid (HE.out.trans (if_neg (by unfold Po.twice; rw [hany, Bool.or_false, decide_eq_true hnd.out]; simp)))
          rw [hany] at HC
          clear hany
          go_wp2_with (at_len; refine wpList_len_own _ rfl _ _ rfl _ _ Try.underlying92 _ _ _ _ rfl HO.out ?_)
          refine HC.out.mono ?_
          rintro e w1 ⟨rfl, hb1⟩
          have HB1 := Lib.hid (Below.after' HB.out hb1 (by have := HB.out.size; omega))
          clear hb1
          by_cases hlt : rs.length < ts.count 0
          · have q3 : decide (rs.length < ts.count 0) = true := by simp [hlt]
            have hfin2 := Lib.hid (hfin.out.trans (if_pos hlt))
            clear hlt
            go_wp2
            go_ret
            exact ⟨by rw [hfin2.out]; rfl, HB1.out⟩
          · have q3 : decide (rs.length < ts.count 0) = false := by simp [hlt]
            by_cases hgt : ts.count 0 < rs.length
            · have q4 : decide (ts.count 0 < rs.length) = true := by simp [hgt]
              have hfin2 := Lib.hid (hfin.out.trans ((if_neg hlt).trans (if_pos hgt)))
              clear hlt hgt
              go_wp2
              go_ret
              exact ⟨by rw [hfin2.out]; rfl, HB1.out⟩
            · have q4 : decide (ts.count 0 < rs.length) = false := by simp [hgt]
              have hfin2 := Lib.hid (hfin.out.trans ((if_neg hlt).trans (if_neg hgt)))
              clear hlt hgt
              go_wp2
              go_ret
              exact ⟨by rw [hfin2.out]; rfl, HB1.out⟩
end Go.Proofs.Ytbdkoagagcemcaa.Pp
/- Layer 25 in plain words: which row is told. No program. -/
namespace Go.Proofs.Ytbdkoagagcemcaa.Pp
open Go.RowKit

/-- The number at a place of the row. -/
def Po.el (fs ts rs : List Int) (i : Nat) : Int := if 0 < ts.getD i 0 then fs.getD (ts.getD i 0 - 1).toNat 0 else rs.getD ((ts.take i).count 0) 0
def Po.rowN (fs ts rs : List Int) (n : Nat) : List Int := (List.range n).map (Po.el fs ts rs)
theorem Po.rowN_length (fs ts rs : List Int) (n : Nat) : (Po.rowN fs ts rs n).length = n := by unfold Po.rowN; simp
theorem Po.rowN_succ (fs ts rs : List Int) (n : Nat) : Po.rowN fs ts rs (n + 1) = Po.rowN fs ts rs n ++ [Po.el fs ts rs n] := by
  unfold Po.rowN
  rw [List.range_succ, List.map_append]
  rfl
theorem Po.rowN_get (fs ts rs : List Int) (n j : Nat) (x : Int) (h : (Po.rowN fs ts rs n)[j]? = some x) : j < n ∧ x = Po.el fs ts rs j := by
  unfold Po.rowN at h
  rw [List.getElem?_map] at h
  cases hr : (List.range n)[j]? with
  | none => rw [hr] at h; simp at h
  | some y =>
    rw [hr] at h
    obtain ⟨h1, h2⟩ := List.getElem?_eq_some_iff.1 hr
    simp at h1 h2 h
    exact ⟨h1, by rw [← h, h2]⟩
/-- What is told: the row, or nothing. -/
def Po.out (fs ts rs : List Int) : List Int := if Po.err fs ts rs = 0 then Po.rowN fs ts rs ts.length else []
/-- No reason: so each token is a place or nought, and there are just enough numbers. -/
theorem Po.err_zero {fs ts rs : List Int} (h : Po.err fs ts rs = 0) : Po.bad fs ts = false ∧ Po.twice fs rs = false ∧ ts.count 0 = rs.length := by
  unfold Po.err at h
  cases hb : Po.bad fs ts with
  | true => rw [hb] at h; simp at h
  | false =>
    cases ht : Po.twice fs rs with
    | true => rw [hb, ht] at h; simp at h
    | false =>
      rw [hb, ht] at h
      refine ⟨rfl, rfl, ?_⟩
      simp only [Bool.false_eq_true, if_false] at h
      split at h
      · simp at h
      · split at h
        · simp at h
        · omega
theorem Po.bad_at {fs ts : List Int} (h : Po.bad fs ts = false) {i : Nat} {x : Int} (hx : ts[i]? = some x) : 0 ≤ x ∧ x ≤ fs.length := by
  have := List.any_eq_false.1 h x (List.mem_of_getElem? hx)
  simp at this
  omega
theorem getD_of {α : Type} {l : List α} {i : Nat} {x d : α} (h : l[i]? = some x) : l.getD i d = x := by simp [List.getD, h]
theorem Po.el_place {fs ts rs : List Int} {i m : Nat} {y : Int} (hx : ts[i]? = some ((m + 1 : Nat) : Int)) (hy : fs[m]? = some y) : Po.el fs ts rs i = y := by
  unfold Po.el
  rw [getD_of hx, if_pos (by omega)]
  have : (((m + 1 : Nat) : Int) - 1).toNat = m := by omega
  rw [this, getD_of hy]
theorem Po.el_rest {fs ts rs : List Int} {i : Nat} {y : Int} (hx : ts[i]? = some 0) (hy : rs[(ts.take i).count 0]? = some y) : Po.el fs ts rs i = y := by
  unfold Po.el
  rw [getD_of hx, if_neg (by omega), getD_of hy]
/-- A nought ahead: so a number is left. -/
theorem Po.room {ts : List Int} {i : Nat} (hx : ts[i]? = some 0) : (ts.take i).count 0 < ts.count 0 := by
  have h1 := take_snocI ts i 0 hx
  have h2 : (ts.take (i + 1)).count 0 ≤ ts.count 0 := (List.take_sublist _ _).count_le _
  rw [h1, count_snoc, if_pos rfl] at h2
  omega
theorem Po.count_step {ts : List Int} {i : Nat} {x : Int} (hx : ts[i]? = some x) : (ts.take (i + 1)).count 0 = (ts.take i).count 0 + if x = 0 then 1 else 0 := by
  rw [take_snocI ts i x hx, count_snoc]
theorem nodup_count : ∀ (l : List Int), l.Nodup ↔ ∀ a, l.count a ≤ 1
  | [] => by simp
  | x :: l => by
    rw [List.nodup_cons, nodup_count l]
    constructor
    · rintro ⟨h1, h2⟩ a
      rw [List.count_cons]
      by_cases e : x = a
      · subst e; rw [List.count_eq_zero_of_not_mem h1]; simp
      · simp [e]; exact h2 a
    · intro h
      refine ⟨fun hx => ?_, fun a => ?_⟩
      · have h1 := h x
        have h2 := List.count_pos_iff.2 hx
        rw [List.count_cons_self] at h1
        omega
      · have h1 := h a
        rw [List.count_cons] at h1
        omega
/-- The document's reasons are the program's. -/
theorem Po.twice_iff (fs rs : List Int) : Po.twice fs rs = true ↔ ∃ f ∈ fs, fs.count f > 1 ∨ rs.count f > 0 := by
  unfold Po.twice
  rw [Bool.or_eq_true, Bool.not_eq_true', decide_eq_false_iff_not, List.any_eq_true]
  constructor
  · rintro (h | ⟨x, hx, h⟩)
    · apply Classical.byContradiction
      intro hn
      refine h ((nodup_count fs).2 (fun a => ?_))
      by_cases ha : a ∈ fs
      · rcases Nat.lt_or_ge 1 (fs.count a) with h1 | h1
        · exact absurd ⟨a, ha, .inl h1⟩ hn
        · exact h1
      · rw [List.count_eq_zero_of_not_mem ha]; omega
    · have : x ∈ fs := Classical.not_not.1 (fun hn => by
        have := Po.at_zero.2 hn
        simp [this] at h)
      exact ⟨x, this, .inr (List.count_pos_iff.2 hx)⟩
  · rintro ⟨f, hf, h | h⟩
    · exact .inl (fun hn => by have := (nodup_count fs).1 hn f; omega)
    · refine .inr ⟨f, List.count_pos_iff.1 h, ?_⟩
      have : Po.at fs f ≠ 0 := fun h0 => Po.at_zero.1 h0 hf
      simp; omega
end Go.Proofs.Ytbdkoagagcemcaa.Pp