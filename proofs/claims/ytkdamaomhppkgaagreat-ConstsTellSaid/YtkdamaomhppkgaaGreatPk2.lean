/- Joined texts: Vals, WalksA, WalksB, WalksC, Eq, WalksD, Put, Off. -/
import Derived.Test.YtkdamaomhppkgaaGreatPk1
import Derived.Test.YtkdamaomhppkgaaGreatProg
import Derived.Lib.Hide
import Derived.Laws.OwnMore
import Derived.Laws.AppendOwn
import Derived.Sort.Walk0
import Derived.Deep.RegionLaw
/- Rows of values: six cells each; what is read, and rows of the call's own. -/
namespace Go.Proofs.YtkdamaomhppkgaaGreat
open Go.RowKit

/-- A value that numbers and lengths of the machine can hold. -/
def Pv.fits (v : Pv) : Prop := I64 v.tag ∧ v.bits < 18446744073709551616 ∧ v.text.length ≤ 140737488355328 ∧ v.cls.length ≤ 140737488355328 ∧ v.name.length ≤ 140737488355328 ∧ v.desc.length ≤ 140737488355328
/-- A value as it lies in cells. -/
def vv (v : Pv) : Value := .agg #[.int .i64 v.tag, .string (bs v.text), .int .u64 v.bits, .string (bs v.cls), .string (bs v.name), .string (bs v.desc)]
def vc : List Pv → List Value
  | [] => []
  | v :: xs => .int .i64 v.tag :: .string (bs v.text) :: .int .u64 v.bits :: .string (bs v.cls) :: .string (bs v.name) :: .string (bs v.desc) :: vc xs
theorem vc_length : ∀ xs : List Pv, (vc xs).length = xs.length * 6
  | [] => rfl
  | v :: xs => by simp only [vc, List.length_cons, vc_length xs]; omega
theorem vc_append : ∀ xs ys : List Pv, vc (xs ++ ys) = vc xs ++ vc ys
  | [], ys => rfl
  | v :: xs, ys => by simp only [List.cons_append, vc, vc_append xs ys]
theorem vc_one : ∀ xs : List Pv, ∀ u ∈ vc xs, u.oneCell' = true
  | [], u, h => by simp [vc] at h
  | v :: xs, u, h => by
    simp only [vc, List.mem_cons] at h
    rcases h with rfl | rfl | rfl | rfl | rfl | rfl | h
    · rfl
    · rfl
    · rfl
    · rfl
    · rfl
    · rfl
    · exact vc_one xs u h
theorem vc_get : ∀ {xs : List Pv} {j : Nat} {v : Pv}, xs[j]? = some v → (vc xs)[j * 6]? = some (.int .i64 v.tag) ∧ (vc xs)[j * 6 + 1]? = some (.string (bs v.text)) ∧ (vc xs)[j * 6 + 2]? = some (.int .u64 v.bits) ∧
    (vc xs)[j * 6 + 3]? = some (.string (bs v.cls)) ∧ (vc xs)[j * 6 + 4]? = some (.string (bs v.name)) ∧ (vc xs)[j * 6 + 5]? = some (.string (bs v.desc))
  | [], j, v, h => by simp at h
  | q :: xs, 0, v, h => by
    simp at h
    subst h
    exact ⟨rfl, rfl, rfl, rfl, rfl, rfl⟩
  | q :: xs, j + 1, v, h => by
    have := vc_get (xs := xs) (j := j) (v := v) (by simpa using h)
    rw [show (j + 1) * 6 = j * 6 + 6 from by omega]
    simpa [vc] using this
theorem infoVal : (Tryz.prog.info? 36).map (fun i => (i.zero, i.size, i.bytes)) = some (some (.agg #[.int .i64 0, .string ⟨#[]⟩, .int .u64 0, .string ⟨#[]⟩, .string ⟨#[]⟩, .string ⟨#[]⟩]), 6, 80) := by kernel_rfl
/-- The six cells of a value. -/
def VAt (w : World) (g o : Nat) (v : Pv) : Prop :=
  w.cell? ⟨g, o, none⟩ = some (.int .i64 v.tag) ∧ w.cell? ⟨g, o + 1, none⟩ = some (.string (bs v.text)) ∧ w.cell? ⟨g, o + 2, none⟩ = some (.int .u64 v.bits) ∧
  w.cell? ⟨g, o + 3, none⟩ = some (.string (bs v.cls)) ∧ w.cell? ⟨g, o + 4, none⟩ = some (.string (bs v.name)) ∧ w.cell? ⟨g, o + 5, none⟩ = some (.string (bs v.desc))
theorem VAt.keep {w w' : World} {g o : Nat} {v : Pv} (h : VAt w g o v) {B : Nat} (k : Below B w w') (hg : g < B) : VAt w' g o v := by
  obtain ⟨h0, h1, h2, h3, h4, h5⟩ := h
  exact ⟨(k.cell (p := ⟨g, _, none⟩) hg).trans h0, (k.cell (p := ⟨g, _, none⟩) hg).trans h1, (k.cell (p := ⟨g, _, none⟩) hg).trans h2, (k.cell (p := ⟨g, _, none⟩) hg).trans h3, (k.cell (p := ⟨g, _, none⟩) hg).trans h4, (k.cell (p := ⟨g, _, none⟩) hg).trans h5⟩
/-- A box with a value. -/
def VBox (w : World) (b : Nat) (v : Pv) : Prop := w.heap[b]? = some (.cells #[.int .i64 v.tag, .string (bs v.text), .int .u64 v.bits, .string (bs v.cls), .string (bs v.name), .string (bs v.desc)] 36 (0, 0))
theorem VBox.lt {w : World} {b : Nat} {v : Pv} (h : VBox w b v) : b < w.heap.size := (Array.getElem?_eq_some_iff.1 h).1
theorem VBox.keep {w w' : World} {b : Nat} {v : Pv} (h : VBox w b v) {B : Nat} (k : Below B w w') (hb : b < B) : VBox w' b v := (k.block b hb).trans h
theorem VBox.at_ {w : World} {b : Nat} {v : Pv} (h : VBox w b v) : w.cell? ⟨b, 0, none⟩ = some (.int .i64 v.tag) ∧ w.cell? ⟨b, 1, none⟩ = some (.string (bs v.text)) ∧ w.cell? ⟨b, 2, none⟩ = some (.int .u64 v.bits) ∧
    w.cell? ⟨b, 3, none⟩ = some (.string (bs v.cls)) ∧ w.cell? ⟨b, 4, none⟩ = some (.string (bs v.name)) ∧ w.cell? ⟨b, 5, none⟩ = some (.string (bs v.desc)) :=
  ⟨(blk_facts h).1 0, (blk_facts h).1 1, (blk_facts h).1 2, (blk_facts h).1 3, (blk_facts h).1 4, (blk_facts h).1 5⟩
theorem vbox_new (w : World) (v : Pv) : VBox (w.alloc (.cells #[.int .i64 v.tag, .string (bs v.text), .int .u64 v.bits, .string (bs v.cls), .string (bs v.name), .string (bs v.desc)] 36)) w.heap.size v := heap_alloc_new _ _
/-- A row that reads as these values. -/
def Vals (w : World) (A : Option Addr) (c : Nat) (xs : List Pv) : Prop :=
  xs.length ≤ c ∧ (0 < xs.length → ∃ g o, A = some ⟨g, o, none⟩ ∧ g < w.heap.size ∧ ∀ (j : Nat) v, xs[j]? = some v → VAt w g (o + j * 6) v)
theorem Vals.keep {w w' : World} {A : Option Addr} {c : Nat} {xs : List Pv} (h : Vals w A c xs) {B : Nat} (k : Below B w w') (hB : ∀ g o, A = some ⟨g, o, none⟩ → 0 < xs.length → g < B) : Vals w' A c xs :=
  ⟨h.1, fun hp => by
    obtain ⟨g, o, e, hg, hc⟩ := h.2 hp
    exact ⟨g, o, e, Nat.lt_of_lt_of_le hg k.size, fun j x hx => (hc j x hx).keep k (hB g o e hp)⟩⟩
theorem Vals.grow {w w' : World} {A : Option Addr} {c : Nat} {xs : List Pv} (h : Vals w A c xs) (k : Below w.heap.size w w') : Vals w' A c xs :=
  h.keep k fun g o e hp => by
    obtain ⟨g', o', e', hg, _⟩ := h.2 hp
    rw [e] at e'
    cases e'
    exact hg
theorem Vals.nil (w : World) (A : Option Addr) (c : Nat) : Vals w A c [] := ⟨Nat.zero_le _, fun h => by simp at h⟩
/-- The place at i. -/
theorem Vals.at_ {w : World} {A : Option Addr} {c : Nat} {xs : List Pv} (h : Vals w A c xs) {i : Nat} (hi : i < xs.length) : ∃ g o v, A = some ⟨g, o, none⟩ ∧ g < w.heap.size ∧ xs[i]? = some v ∧ VAt w g (o + i * 6) v := by
  obtain ⟨g, o, e, hg, hc⟩ := h.2 (by omega)
  exact ⟨g, o, _, e, hg, List.getElem?_eq_getElem hi, hc i _ (List.getElem?_eq_getElem hi)⟩
def VRow (w : World) (base : Nat) (v : Value) (xs : List Pv) : Prop := w.ownsRow base 36 6 v xs.length (vc xs)
theorem VRow.grow {w w1 : World} {base : Nat} {v : Value} {xs : List Pv} (h : VRow w base v xs) (k : Below w.heap.size w w1) : VRow w1 base v xs := own_below h k
theorem VRow.nil (w : World) (base : Nat) : VRow w base (.slice none 0 0) [] := World.ownsRow_nil w base 36 6
theorem VRow.app {w : World} {base : Nat} {v : Value} {xs ys : List Pv} {n : Nat} (h : w.ownsRow base 36 6 v n (vc xs ++ vc ys)) (hn : n = xs.length + ys.length) : VRow w base v (xs ++ ys) := by
  unfold VRow
  rw [List.length_append, vc_append, ← hn]
  exact h
theorem VRow.kept {w w1 : World} {base : Nat} {v : Value} {xs : List Pv} {row : Option Nat} (h : VRow w base v xs) (g : w.grownBy w1 row) (hne : ∀ k, v.ownBlock = some k → row ≠ some k) : VRow w1 base v xs :=
  World.ownsRow.kept h g (by
    cases e : v.ownBlock with
    | none => exact .inl rfl
    | some k => exact .inr (fun e2 => hne k e e2.symm))
theorem VRow.lower {w : World} {base b' : Nat} {v : Value} {xs : List Pv} (h : VRow w base v xs) (hb : b' ≤ base) : VRow w b' v xs := by
  refine ⟨h.1, ?_⟩
  rcases h.2 with h2 | ⟨g, cap, cur, h2, h3, h4⟩
  · exact .inl h2
  · exact .inr ⟨g, cap, cur, h2, Nat.le_trans hb h3, h4⟩
theorem addr_add (g o j : Nat) : Addr.add ⟨g, o, none⟩ j = ⟨g, o + j, none⟩ := by unfold Addr.add; split <;> simp_all
theorem VRow.reads {w : World} {base : Nat} {v : Value} {xs : List Pv} (h : VRow w base v xs) : ∃ A c, v = .slice A xs.length c ∧ Vals w A c xs ∧ (∀ g o, A = some ⟨g, o, none⟩ → base ≤ g ∧ o = 0) := by
  have hc := fun (g : Nat) (hg : v.ownBlock = some g) => World.ownsRow.cells h hg
  rcases h.2 with ⟨rfl, hn⟩ | ⟨g, cap, cur, rfl, h1, h2, h3, _⟩
  · obtain rfl : xs = [] := List.eq_nil_of_length_eq_zero hn
    exact ⟨none, 0, rfl, Vals.nil _ _ _, fun g o e => by cases e⟩
  · refine ⟨_, cap, rfl, ⟨h3, fun _ => ⟨g, 0, rfl, (Array.getElem?_eq_some_iff.1 h2).1, fun j x hx => ?_⟩⟩, fun g' o e => by cases e; exact ⟨h1, rfl⟩⟩
    obtain ⟨p0, p1, p2, p3, p4, p5⟩ := vc_get hx
    have c0 := hc g rfl _ _ p0
    have c1 := hc g rfl _ _ p1
    have c2 := hc g rfl _ _ p2
    have c3 := hc g rfl _ _ p3
    have c4 := hc g rfl _ _ p4
    have c5 := hc g rfl _ _ p5
    rw [addr_add] at c0 c1 c2 c3 c4 c5
    unfold VAt
    simp only [Nat.add_assoc]
    exact ⟨c0, c1, c2, c3, c4, c5⟩
theorem VRow.base_le {w : World} {base : Nat} {v : Value} {xs : List Pv} (h : VRow w base v xs) {k : Nat} (hk : v.ownBlock = some k) : base ≤ k := (World.ownsRow.lt h k hk).1
/-- What is appended out of a row that is read. -/
theorem Vals.src {w0 w : World} {A : Option Addr} {c : Nat} {xs : List Pv} (h : Vals w0 A c xs) (k : Below w0.heap.size w0 w) : Src Tryz.prog 6 22 (.slice A xs.length c) xs.length (vc xs) w := by
  have h' := h.grow k
  cases xs with
  | nil =>
    cases A with
    | none => exact Src.ofNil w Tryz.underlying22 c
    | some a => exact Src.ofSlice w Tryz.underlying22 a 0 c [] rfl (fun j u hu => by simp at hu) (fun u hu => by cases hu)
  | cons y ys =>
    obtain ⟨g, o, rfl, hg, hc⟩ := h'.2 (by simp)
    refine Src.ofSlice w Tryz.underlying22 ⟨g, o, none⟩ _ c _ (vc_length _) (fun j u hu => ?_) (vc_one _)
    have hj : j < (vc (y :: ys)).length := (List.getElem?_eq_some_iff.1 hu).1
    rw [vc_length] at hj
    have hi : j / 6 < (y :: ys).length := by omega
    have hx := List.getElem?_eq_getElem hi
    obtain ⟨p0, p1, p2, p3, p4, p5⟩ := vc_get hx
    obtain ⟨c0, c1, c2, c3, c4, c5⟩ := hc _ _ hx
    rw [addr_add]
    have hr : j % 6 = 0 ∨ j % 6 = 1 ∨ j % 6 = 2 ∨ j % 6 = 3 ∨ j % 6 = 4 ∨ j % 6 = 5 := by omega
    have fin : ∀ k, j % 6 = k → j = j / 6 * 6 + k := fun k hk => by omega
    rcases hr with e | e | e | e | e | e <;> (have e1 := fin _ e; revert hu; generalize j / 6 = q at *; subst e1; intro hu)
    · rw [show q * 6 + 0 = q * 6 from rfl] at hu; rw [p0] at hu; cases hu; exact c0
    · rw [p1] at hu; cases hu; exact c1
    · rw [p2] at hu; cases hu; exact c2
    · rw [p3] at hu; cases hu; exact c3
    · rw [p4] at hu; cases hu; exact c4
    · rw [p5] at hu; cases hu; exact c5
/-- One value, out of a fresh block. -/
theorem src_val {w : World} {B : Nat} {v : Pv} {t : TypeId} {fr : Nat × Nat} (hb : w.heap[B]? = some (.cells #[.int .i64 v.tag, .string (bs v.text), .int .u64 v.bits, .string (bs v.cls), .string (bs v.name), .string (bs v.desc)] t fr)) (c : Nat) :
    Src Tryz.prog 6 22 (.slice (some ⟨B, 0, none⟩) 1 c) 1 (vc [v]) w :=
  src_block Tryz.underlying22 6 1 c B _ t fr hb rfl (vc_one [v])
/-- append of whatever values onto an own row. -/
theorem wpList_appV {w : World} {ops : Array Oper} {rest : List Oper} {o : Oper} {a : Act} {Q : Exit → Act → World → Prop} (hgd : o.guard = none) (s x : Operand)
    (ho : o.op = .call { callee := .builtin .append, args := #[s, x], argTypes := #[22, 22] })
    (base : Nat) (v : Value) (xs : List Pv) (hv : a.eval s = v) (hown : VRow w base v xs) (X : Value) (ys : List Pv) (hX : a.eval x = X)
    (hs : Src Tryz.prog 6 22 X ys.length (vc ys) w) (hn : xs.length + ys.length ≤ 1000000000000) (hbase : base ≤ w.heap.size)
    (h : ∀ v' w', VRow w' base v' (xs ++ ys) → Hop w w' v.ownBlock v'.ownBlock → wpList Tryz.prog ops Q rest (a.put o.dst v') w') : wpList Tryz.prog ops Q (o :: rest) a w := by
  obtain ⟨i0, hi, hz0, hz1, hz2⟩ := info_parts infoVal
  refine wpList_append_row hgd s x 22 22 ho base 36 i0 _ 6 80 Tryz.underlying22 hi hz0 hz1 hz2 rfl v _ _ hv hown X ys.length (vc ys) hX (fun v' w' h1 h2 => h v' w' (VRow.app h1 rfl) h2) hs ?_ ?_ hbase
  · unfold maxLen; omega
  · omega
theorem step_appV {w : World} {ops : Array Oper} {o : Oper} {a : Act} {K : Act → World → Prop} {Q : Exit → Act → World → Prop} {E : Prop} (hgd : o.guard = none) (s x : Operand)
    (ho : o.op = .call { callee := .builtin .append, args := #[s, x], argTypes := #[22, 22] })
    (base : Nat) (v : Value) (xs : List Pv) (hv : a.eval s = v) (hown : VRow w base v xs) (X : Value) (ys : List Pv) (hX : a.eval x = X)
    (hs : Src Tryz.prog 6 22 X ys.length (vc ys) w) (hn : xs.length + ys.length ≤ 1000000000000) (hbase : base ≤ w.heap.size)
    (h : ∀ v' w', VRow w' base v' (xs ++ ys) → Hop w w' v.ownBlock v'.ownBlock → K (a.put o.dst v') w') :
    if Region.wanted o (yielded ops a.tmps) = true then Oper.wp Tryz.prog o a w K Q else E := by
  obtain ⟨i0, hi, hz0, hz1, hz2⟩ := info_parts infoVal
  refine step_append_row hgd s x 22 22 ho base 36 i0 _ 6 80 Tryz.underlying22 hi hz0 hz1 hz2 rfl v _ _ hv hown X ys.length (vc ys) hX (fun v' w' h1 h2 => h v' w' (VRow.app h1 rfl) h2) hs ?_ ?_ hbase
  · unfold maxLen; omega
  · omega
end Go.Proofs.YtkdamaomhppkgaaGreat

/- The walks of layer 28: which values are not too great; what values need. -/
namespace Go.Proofs.YtkdamaomhppkgaaGreat
open Go.RowKit

def Pv.small (v : Pv) : Bool := !decide (300 < v.text.length + v.cls.length + v.name.length + v.desc.length)
def Pv.few (l : List Pv) : Bool := l.all Pv.small && decide (l.length ≤ 60)
theorem all_take_snoc {α : Type} (p : α → Bool) {l : List α} {i : Nat} {x : α} (h : l[i]? = some x) : (l.take (i + 1)).all p = ((l.take i).all p && p x) := by
  obtain ⟨h1, rfl⟩ := List.getElem?_eq_some_iff.1 h
  rw [List.take_succ_eq_append_getElem h1, List.all_append]
  simp
theorem all_bad {α : Type} (p : α → Bool) {l : List α} {i : Nat} {x : α} (h : l[i]? = some x) (hp : p x = false) : l.all p = false := by
  rw [List.all_eq_false]
  exact ⟨x, List.mem_of_getElem? h, by rw [hp]; simp⟩
set_option maxHeartbeats 4000000 in
theorem few_any (A : Option Addr) (c : Nat) (l : List Pv) (w : World) (hx : Vals w A c l) (hn : l.length ≤ 140737488355328) (hf : ∀ v ∈ l, v.fits) :
    Calls Tryz.prog 6 #[.slice A l.length c] w fun e w' => e = .returned (.bool (Pv.few l)) ∧ Below w.heap.size w w' := by
  have HX := Lib.hid hx
  have HFT := Lib.hid hf
  clear hx hf
  go_enter Tryz.func6, Tryz.ntmps6
  go_wp2_with fail
  go_loopw [7] (fun u wr => ∃ i : Nat, i ≤ l.length ∧ u = .int .i64 i ∧ (l.take i).all Pv.small = true ∧ Below w.heap.size w wr) (fun u _ => l.length - (intOf u).toNat)
  case atStart => exact ⟨0, Nat.zero_le _, rfl, rfl, Below.refl _ _⟩
  case round =>
    obtain ⟨i, hil, rfl, hall, hB⟩ := hrel
    have HB := Lib.hid hB
    by_cases hi : i < l.length
    · obtain ⟨g, o, v, rfl, hg, hv, c0, c1, c2, c3, c4, c5⟩ := (HX.out.grow hB).at_ hi
      obtain ⟨_, _, f1, f2, f3, f4⟩ := HFT.out v (List.mem_of_getElem? hv)
      have p1 : decide ((i : Int) < (l.length : Int)) = true := decide_eq_true (by omega)
      have p2 : decide (i < l.length) = true := decide_eq_true hi
      have z1 := bs_size v.text
      have z2 := bs_size v.cls
      have z3 := bs_size v.name
      have z4 := bs_size v.desc
      have HF := Lib.hid hv
      have HA := Lib.hid hall
      have k1 := Lib.hid (HB.out.trans (((Below.refl wr.heap.size wr).alloc (Nat.le_refl _) (.cells #[.int .i64 v.tag, .string (bs v.text), .int .u64 v.bits, .string (bs v.cls), .string (bs v.name), .string (bs v.desc)] 36)).mono HB.out.size))
      have hsm : Pv.small v = !decide (300 < v.text.length + v.cls.length + v.name.length + v.desc.length) := rfl
      clear hall hB hv
      by_cases h1 : 300 < v.text.length + v.cls.length + v.name.length + v.desc.length
      · have q1 : decide (300 < v.text.length + v.cls.length + v.name.length + v.desc.length) = true := decide_eq_true h1
        have q1' : decide ((300 : Int) < (v.text.length : Int) + (v.cls.length : Int) + (v.name.length : Int) + (v.desc.length : Int)) = true := decide_eq_true (by omega)
        rw [q1, Bool.not_true] at hsm
        have HS := Lib.hid (all_bad Pv.small HF.out hsm)
        clear hsm
        go_wp2
        go_ret
        exact ⟨by unfold Pv.few; rw [HS.out]; rfl, k1.out⟩
      · have q1 : decide (300 < v.text.length + v.cls.length + v.name.length + v.desc.length) = false := decide_eq_false h1
        have q1' : decide ((300 : Int) < (v.text.length : Int) + (v.cls.length : Int) + (v.name.length : Int) + (v.desc.length : Int)) = false := decide_eq_false (by omega)
        rw [q1, Bool.not_false] at hsm
        have HS := Lib.hid (show (l.take (i + 1)).all Pv.small = true by rw [all_take_snoc Pv.small HF.out, HA.out, hsm]; rfl)
        clear hsm
        go_wp2
        go_roundw
        case rel => exact ⟨i + 1, by omega, by go_num, HS.out, k1.out⟩
        case measure => simp [intOf]; omega
    · obtain rfl : i = l.length := by omega
      have p1 : decide ((l.length : Int) < (l.length : Int)) = false := decide_eq_false (by omega)
      have p2 : decide (l.length < l.length) = false := decide_eq_false (by omega)
      rw [List.take_length] at hall
      have HA := Lib.hid hall
      clear hall hB
      go_wp2
      go_ret
      exact ⟨by unfold Pv.few; rw [HA.out, Bool.true_and]; show Ending.returned (.bool (decide ((l.length : Int) ≤ 60))) = _; rw [show decide ((l.length : Int) ≤ 60) = decide (l.length ≤ 60) from decide_eq_decide.2 (by omega)], HB.out⟩
end Go.Proofs.YtkdamaomhppkgaaGreat

/- The walks of layer 19: what values need, the program's and the document's. -/
namespace Go.Proofs.YtkdamaomhppkgaaGreat
open Go.RowKit

theorem vrow_of_block {w : World} {M base n : Nat} {cs : Array Value} (h : w.heap[M]? = some (.cells cs 36 (0, 0))) (hb : base ≤ M) (xs : List Pv) (hcs : cs.toList = vc xs) (hn : n = xs.length) (hl : xs.length ≤ 1000) : VRow w base (.slice (some ⟨M, 0, none⟩) n n) xs := by
  subst hn
  have hs : cs.size = xs.length * 6 := by rw [← vc_length, ← hcs]; simp
  refine ⟨vc_length xs, .inr ⟨M, xs.length, cs, rfl, hb, h, Nat.le_refl _, by unfold maxLen; omega, hs, ?_⟩⟩
  rw [hcs, ← vc_length]
  exact List.take_length
/-- What is given back: a row of the call's own with these values. -/
def Gives (w : World) (xs : List Pv) (e : Ending) (w' : World) : Prop := ∃ u, e = .returned u ∧ VRow w' w.heap.size u xs ∧ Below w.heap.size w w'

theorem sizeVal : (Tryz.prog.info? 36).map (·.size) = some 6 := by kernel_rfl
/-- A result that lies in a box. -/
theorem val_ret {fn : Func} {R : Ending → World → Prop} {a : Act} {w : World} {p g : Nat} {v : Pv} (hf : fn.results = #[.cell p 36]) (hp : a.tmps.getD p undef = .pointer (some ⟨g, 0, none⟩)) (hb : VBox w g v) (hR : R (.returned (vv v)) w) (hd : a.defers = [] := by rfl) : bodyPost Tryz.prog fn R .ret a w :=
  bodyPost_ret (results_cell_row hf _ w g 36 _ _ _ hp hb Tryz.underlying36 rfl sizeVal) hd hR
set_option maxHeartbeats 1000000 in
theorem text_any (s : List UInt8) (w : World) : Calls Tryz.prog 45 #[.string (bs s)] w fun e w' => e = .returned (vv (Pv.ofText s)) ∧ Below w.heap.size w w' := by
  go_enter Tryz.func45, Tryz.ntmps45
  go_wp2
  exact val_ret (v := Pv.ofText s) rfl rfl (heap_alloc_new _ _)   ⟨rfl, (Below.refl w.heap.size w).alloc (Nat.le_refl _) _⟩
set_option maxHeartbeats 1000000 in
theorem asText_any (s : List UInt8) (w : World) : Calls Tryz.prog 66 #[.string (bs s)] w fun e w' => e = .returned (vv (Pv.ofText s)) ∧ Below w.heap.size w w' := by
  go_enter Tryz.func66, Tryz.ntmps66
  go_wp2
  exact val_ret (v := Pv.ofText s) rfl rfl (heap_alloc_new _ _)   ⟨rfl, (Below.refl w.heap.size w).alloc (Nat.le_refl _) _⟩
theorem text_raw (s : List UInt8) (w : World) : Calls Tryz.prog 45 #[.string (bs s)] w fun e w' => e = .returned (.agg #[.int .i64 1, .string (bs s), .int .u64 0, .string ⟨#[]⟩, .string ⟨#[]⟩, .string ⟨#[]⟩]) ∧ Below w.heap.size w w' := text_any s w
theorem asText_raw (s : List UInt8) (w : World) : Calls Tryz.prog 66 #[.string (bs s)] w fun e w' => e = .returned (.agg #[.int .i64 1, .string (bs s), .int .u64 0, .string ⟨#[]⟩, .string ⟨#[]⟩, .string ⟨#[]⟩]) ∧ Below w.heap.size w w' := asText_any s w
theorem wide_any (t : Int) (w : World) : Calls Tryz.prog 68 #[.int .i64 t] w fun e w' => e = .returned (.bool (t == 5 || t == 6)) ∧ w' = w := by
  go_enter Tryz.func68, Tryz.ntmps68
  by_cases h1 : t = 5
  · subst h1
    go_wp2
    go_ret
    exact ⟨rfl, rfl⟩
  · have u1 : (t == 5) = false := by simpa using h1
    have u2 : decide (t = 5) = false := decide_eq_false h1
    go_wp2
    go_ret
    exact ⟨by rw [u1, Bool.false_or]; by_cases h2 : t = 6 <;> simp [h2], rfl⟩

set_option maxHeartbeats 4000000 in
set_option maxRecDepth 100000 in
theorem needs_any (v : Pv) (w : World) : Calls Tryz.prog 22 #[vv v] w (Gives w v.needs) := by
  obtain ⟨tag, text, bits, cls, name, desc⟩ := v
  unfold vv
  dsimp only
  have k0 := (Below.refl w.heap.size w).alloc (Nat.le_refl _) (.cells #[.int .i64 tag, .string (bs text), .int .u64 bits, .string (bs cls), .string (bs name), .string (bs desc)] 36)
  have q : VBox (w.alloc (.cells #[.int .i64 tag, .string (bs text), .int .u64 bits, .string (bs cls), .string (bs name), .string (bs desc)] 36)) w.heap.size ⟨tag, text, bits, cls, name, desc⟩ := heap_alloc_new _ _
  have other : ¬ (tag = 7 ∨ tag = 8) → ¬ tag = 12 → ¬ (tag = 9 ∨ tag = 10 ∨ tag = 11) → Calls Tryz.prog 22 #[.agg #[.int .i64 tag, .string (bs text), .int .u64 bits, .string (bs cls), .string (bs name), .string (bs desc)]] w (Gives w []) := by
    intro n1 n2 n3
    have u7 : (tag == 7) = false := by simp; omega
    have u8 : (tag == 8) = false := by simp; omega
    have u12 : (tag == 12) = false := by simp; omega
    have u9 : (tag == 9) = false := by simp; omega
    have u10 : (tag == 10) = false := by simp; omega
    have u11 : (tag == 11) = false := by simp; omega
    have K := Lib.hid k0
    clear q k0
    go_enter Tryz.func22, Tryz.ntmps22
    go_wp2
    go_ret
    exact ⟨_, rfl, VRow.nil _ _, K.out⟩
  have one : (tag = 7 ∨ tag = 8) → Calls Tryz.prog 22 #[.agg #[.int .i64 tag, .string (bs text), .int .u64 bits, .string (bs cls), .string (bs name), .string (bs desc)]] w (Gives w [Pv.ofText text]) := by
    intro h
    have K := Lib.hid k0
    clear q k0 other
    rcases h with rfl | rfl <;>
    · go_enter Tryz.func22, Tryz.ntmps22
      go_wp2_with fail
      refine (text_any text _).mono ?_
      rintro e w1 ⟨rfl, hb⟩
      have K1 := Lib.hid (K.out.trans (hb.mono K.out.size))
      unfold vv Pv.ofText
      dsimp only
      clear hb
      go_wp2
      go_ret
      exact ⟨_, rfl, vrow_of_block (heap_alloc_new _ _) K1.out.size [Pv.ofText text] rfl rfl (by simp), K1.out.alloc K1.out.size _⟩
  have pair : tag = 12 → Calls Tryz.prog 22 #[.agg #[.int .i64 tag, .string (bs text), .int .u64 bits, .string (bs cls), .string (bs name), .string (bs desc)]] w (Gives w [Pv.ofText name, Pv.ofText desc]) := by
    intro h
    subst h
    have K := Lib.hid k0
    clear k0 other one
    go_enter Tryz.func22, Tryz.ntmps22
    go_wp2_with fail
    generalize w.alloc (.cells #[.int .i64 12, .string (bs text), .int .u64 bits, .string (bs cls), .string (bs name), .string (bs desc)] 36) = W at q K ⊢
    obtain ⟨c0, c1, c2, c3, c4, c5⟩ := q.at_
    dsimp only at c0 c1 c2 c3 c4 c5
    have zd : w.heap.size < W.drew.heap.size := q.lt
    clear q
    refine wp_region_ord 8 (by kernel_rfl) (by kernel_rfl) (fun _ _ d _ _ h => by cases d <;> exact h) ?_
    simp only [List.take_succ_cons, List.take_zero, List.drop_succ_cons, List.drop_zero]
    repeat (first | (refine wpLex_skip rfl ?_; simp only [Act.put, List.setIfInBounds_toArray, List.set_cons_zero, List.set_cons_succ]) | (refine wpLex_fix rfl ?_; intro F hF R hR hne K hK; go_big_quiet_op; first | (go_big_quiet_on; clear hne hR R hF F) | (apply Exists.intro; refine ⟨fun g => ?_, ?_⟩; (((first | (rw [GrE.cell g _ _ zd]; go_simp; first | exact ⟨rfl, rfl⟩ | rfl) | (go_at_call 45; exact GrE.call hR (text_raw _ _))))); go_big_quiet_on; clear hne hR R hF F)) | (apply wpLex_blk rfl; (focus (intro x hx; go_simp; exact ⟨rfl, rfl⟩)); intro B hB; simp only [Act.put, blkVal, List.setIfInBounds_toArray, List.set_cons_zero, List.set_cons_succ]))
    refine wpLex_nil ?_
    intro w1 hw1
    have F1 := hw1.fact 20 _ _ (.inr ⟨rfl, rfl, rfl⟩)
    have K1 := Lib.hid (Below.after' (Below.drew K.out) hw1.below (Nat.le_refl _))
    have L1 := Lib.hid F1.2
    have hB := F1.1
    clear hw1 F1
    go_wp2
    go_ret
    refine ⟨_, rfl, vrow_of_block L1.out (by have := K.out.size; exact Nat.le_trans this hB) [Pv.ofText name, Pv.ofText desc] ?_ rfl (by simp), K1.out⟩
    rfl
  have memb : (tag = 9 ∨ tag = 10 ∨ tag = 11) → Calls Tryz.prog 22 #[.agg #[.int .i64 tag, .string (bs text), .int .u64 bits, .string (bs cls), .string (bs name), .string (bs desc)]] w (Gives w [Pv.ofCls cls, Pv.ofPair name desc]) := by
    intro h
    have K := Lib.hid k0
    clear q k0 other one pair
    rcases h with rfl | rfl | rfl <;>
    · go_enter Tryz.func22, Tryz.ntmps22
      go_wp2
      go_ret
      refine ⟨_, rfl, vrow_of_block (heap_alloc2_new w _ _) (by omega) [Pv.ofCls cls, Pv.ofPair name desc] ?_ rfl (by simp), K.out.alloc K.out.size _⟩
      rfl
  unfold Pv.needs
  dsimp only
  split
  · rename_i h; exact one h
  · split
    · rename_i h; exact pair h
    · split
      · rename_i h; exact memb h
      · rename_i n1 n2 n3; exact other n1 n2 n3
end Go.Proofs.YtkdamaomhppkgaaGreat

/- The walks of layer 19: what values need, the document's. -/
namespace Go.Proofs.YtkdamaomhppkgaaGreat
open Go.RowKit

set_option maxHeartbeats 4000000 in
set_option maxRecDepth 100000 in
theorem rneeds_any (v : Pv) (w : World) : Calls Tryz.prog 39 #[vv v] w (Gives w v.needs) := by
  obtain ⟨tag, text, bits, cls, name, desc⟩ := v
  unfold vv
  dsimp only
  have k0 := (Below.refl w.heap.size w).alloc (Nat.le_refl _) (.cells #[.int .i64 tag, .string (bs text), .int .u64 bits, .string (bs cls), .string (bs name), .string (bs desc)] 36)
  have q : VBox (w.alloc (.cells #[.int .i64 tag, .string (bs text), .int .u64 bits, .string (bs cls), .string (bs name), .string (bs desc)] 36)) w.heap.size ⟨tag, text, bits, cls, name, desc⟩ := heap_alloc_new _ _
  have other : ¬ (tag = 7 ∨ tag = 8) → ¬ tag = 12 → ¬ (tag = 9 ∨ tag = 10 ∨ tag = 11) → Calls Tryz.prog 39 #[.agg #[.int .i64 tag, .string (bs text), .int .u64 bits, .string (bs cls), .string (bs name), .string (bs desc)]] w (Gives w []) := by
    intro n1 n2 n3
    have u7 : (tag == 7) = false := by simp; omega
    have u8 : (tag == 8) = false := by simp; omega
    have u12 : (tag == 12) = false := by simp; omega
    have u9 : (tag == 9) = false := by simp; omega
    have u10 : (tag == 10) = false := by simp; omega
    have u11 : (tag == 11) = false := by simp; omega
    have K := Lib.hid k0
    have Q := Lib.hid q
    have hz := q.lt
    clear q k0
    go_enter Tryz.func39, Tryz.ntmps39
    go_wp2_with fail
    refine (asText_raw text _).mono ?_
    rintro e w1 ⟨rfl, hb⟩
    have q1 := Q.out.keep hb hz
    obtain ⟨c0, c1, c2, c3, c4, c5⟩ := q1.at_
    dsimp only at c0 c1 c2 c3 c4 c5
    have K1 := Lib.hid ((K.out.trans (hb.mono K.out.size)).alloc (K.out.trans (hb.mono K.out.size)).size (.cells #[.int .i64 1, .string (bs text), .int .u64 0, .string ⟨#[]⟩, .string ⟨#[]⟩, .string ⟨#[]⟩] 36))
    have hl1 := q1.lt
    clear hb q1
    go_wp2
    go_ret
    exact ⟨_, rfl, VRow.nil _ _, K1.out⟩
  have one : (tag = 7 ∨ tag = 8) → Calls Tryz.prog 39 #[.agg #[.int .i64 tag, .string (bs text), .int .u64 bits, .string (bs cls), .string (bs name), .string (bs desc)]] w (Gives w [Pv.ofText text]) := by
    intro h
    have K := Lib.hid k0
    have Q := Lib.hid q
    have hz := q.lt
    clear q k0 other
    rcases h with rfl | rfl <;>
    · go_enter Tryz.func39, Tryz.ntmps39
      go_wp2_with fail
      refine (asText_raw text _).mono ?_
      rintro e w1 ⟨rfl, hb⟩
      have q1 := Q.out.keep hb hz
      obtain ⟨c0, c1, c2, c3, c4, c5⟩ := q1.at_
      dsimp only at c0 c1 c2 c3 c4 c5
      have K1 := Lib.hid (K.out.trans (hb.mono K.out.size))
      have hl1 := q1.lt
      clear hb q1
      go_wp2
      go_ret
      refine ⟨_, rfl, vrow_of_block (heap_alloc2_new w1 _ _) (by have := K1.out.size; omega) [Pv.ofText text] ?_ rfl (by simp), ?_⟩
      · rfl
      · have := (K1.out.alloc K1.out.size (.cells #[.int .i64 1, .string (bs text), .int .u64 0, .string ⟨#[]⟩, .string ⟨#[]⟩, .string ⟨#[]⟩] 36))
        exact this.alloc this.size _
  have pair : tag = 12 → Calls Tryz.prog 39 #[.agg #[.int .i64 tag, .string (bs text), .int .u64 bits, .string (bs cls), .string (bs name), .string (bs desc)]] w (Gives w [Pv.ofText name, Pv.ofText desc]) := by
    intro h
    subst h
    have K := Lib.hid k0
    have Q := Lib.hid q
    have hz := q.lt
    clear q k0 other one
    go_enter Tryz.func39, Tryz.ntmps39
    go_wp2_with fail
    refine (asText_raw text _).mono ?_
    rintro e w1 ⟨rfl, hb⟩
    have q1 := Q.out.keep hb hz
    have k1 := K.out.trans (hb.mono K.out.size)
    have k2 := (Below.refl w1.heap.size w1).alloc (Nat.le_refl _) (.cells #[.int .i64 1, .string (bs text), .int .u64 0, .string ⟨#[]⟩, .string ⟨#[]⟩, .string ⟨#[]⟩] 36)
    have q2 := q1.keep k2 q1.lt
    obtain ⟨c0, c1, c2, c3, c4, c5⟩ := q1.at_
    dsimp only at c0 c1 c2 c3 c4 c5
    have K2 := Lib.hid (k1.trans (k2.mono k1.size))
    have Q2 := Lib.hid q2
    have hl1 := q1.lt
    clear hb q1 q2 k1 k2
    go_wp2_with fail
    generalize w1.alloc (.cells #[.int .i64 1, .string (bs text), .int .u64 0, .string ⟨#[]⟩, .string ⟨#[]⟩, .string ⟨#[]⟩] 36) = W at K2 Q2 ⊢
    have zd : w.heap.size < W.drew.heap.size := Q2.out.lt
    obtain ⟨c0, c1, c2, c3, c4, c5⟩ := Q2.out.at_
    dsimp only at c0 c1 c2 c3 c4 c5
    refine wp_region_ord 8 (by kernel_rfl) (by kernel_rfl) (fun _ _ d _ _ h => by cases d <;> exact h) ?_
    simp only [List.take_succ_cons, List.take_zero, List.drop_succ_cons, List.drop_zero]
    repeat (first | (refine wpLex_skip rfl ?_; simp only [Act.put, List.setIfInBounds_toArray, List.set_cons_zero, List.set_cons_succ]) | (refine wpLex_fix rfl ?_; intro F hF R hR hne K hK; go_big_quiet_op; first | (go_big_quiet_on; clear hne hR R hF F) | (apply Exists.intro; refine ⟨fun g => ?_, ?_⟩; (((first | (rw [GrE.cell g _ _ zd]; go_simp; first | exact ⟨rfl, rfl⟩ | rfl) | (go_at_call 66; exact GrE.call hR (asText_raw _ _))))); go_big_quiet_on; clear hne hR R hF F)) | (apply wpLex_blk rfl; (focus (intro x hx; go_simp; exact ⟨rfl, rfl⟩)); intro B hB; simp only [Act.put, blkVal, List.setIfInBounds_toArray, List.set_cons_zero, List.set_cons_succ]))
    refine wpLex_nil ?_
    intro w1 hw1
    have F1 := hw1.fact 22 _ _ (.inr ⟨rfl, rfl, rfl⟩)
    have K3 := Lib.hid (Below.after' (Below.drew K2.out) hw1.below (Nat.le_refl _))
    have L1 := Lib.hid F1.2
    have hB := F1.1
    clear hw1 F1
    go_wp2
    go_ret
    refine ⟨_, rfl, vrow_of_block L1.out (by have := K2.out.size; exact Nat.le_trans this hB) [Pv.ofText name, Pv.ofText desc] ?_ rfl (by simp), K3.out⟩
    rfl
  have memb : (tag = 9 ∨ tag = 10 ∨ tag = 11) → Calls Tryz.prog 39 #[.agg #[.int .i64 tag, .string (bs text), .int .u64 bits, .string (bs cls), .string (bs name), .string (bs desc)]] w (Gives w [Pv.ofCls cls, Pv.ofPair name desc]) := by
    intro h
    have K := Lib.hid k0
    have Q := Lib.hid q
    have hz := q.lt
    clear q k0 other one pair
    rcases h with rfl | rfl | rfl <;>
    · go_enter Tryz.func39, Tryz.ntmps39
      go_wp2_with fail
      refine (asText_raw text _).mono ?_
      rintro e w1 ⟨rfl, hb⟩
      have q1 := Q.out.keep hb hz
      obtain ⟨c0, c1, c2, c3, c4, c5⟩ := q1.at_
      dsimp only at c0 c1 c2 c3 c4 c5
      have K1 := Lib.hid (K.out.trans (hb.mono K.out.size))
      have hl1 := q1.lt
      clear hb q1
      go_wp2
      go_ret
      refine ⟨_, rfl, vrow_of_block (heap_alloc2_new w1 _ _) (by have := K1.out.size; omega) [Pv.ofCls cls, Pv.ofPair name desc] ?_ rfl (by simp), ?_⟩
      · rfl
      · have := (K1.out.alloc K1.out.size (.cells #[.int .i64 1, .string (bs text), .int .u64 0, .string ⟨#[]⟩, .string ⟨#[]⟩, .string ⟨#[]⟩] 36))
        exact this.alloc this.size _
  unfold Pv.needs
  dsimp only
  split
  · rename_i h; exact one h
  · split
    · rename_i h; exact pair h
    · split
      · rename_i h; exact memb h
      · rename_i n1 n2 n3; exact other n1 n2 n3
end Go.Proofs.YtkdamaomhppkgaaGreat

/- Values held against each other. -/
namespace Go.Proofs.YtkdamaomhppkgaaGreat
open Go.RowKit

theorem Pv.eq_iff (a b : Pv) : a = b ↔ a.tag = b.tag ∧ a.text = b.text ∧ a.bits = b.bits ∧ a.cls = b.cls ∧ a.name = b.name ∧ a.desc = b.desc := by
  constructor
  · rintro rfl; exact ⟨rfl, rfl, rfl, rfl, rfl, rfl⟩
  · intro ⟨h0, h1, h2, h3, h4, h5⟩
    cases a; cases b
    simp only at h0 h1 h2 h3 h4 h5
    subst h0 h1 h2 h3 h4 h5
    rfl
set_option maxHeartbeats 1000000 in
theorem eq_val (a b : Pv) (x : World) : (Op.equalIn 10000 36 (vv a) (vv b)).run Tryz.prog x = .ok (decide (a = b)) x := by
  unfold vv
  have h0 : ((a.tag : Int) == b.tag) = decide (a.tag = b.tag) := by by_cases h : a.tag = b.tag <;> simp [h]
  have h1 := bs_beq a.text b.text
  have h2 : ((a.bits : Int) == (b.bits : Int)) = decide (a.bits = b.bits) := by
    by_cases h : a.bits = b.bits
    · simp [h]
    · have h' : ¬ (a.bits : Int) = (b.bits : Int) := by omega
      simp [h, h']
  have h3 := bs_beq a.cls b.cls
  have h4 := bs_beq a.name b.name
  have h5 := bs_beq a.desc b.desc
  rw [show (10000 : Nat) = 9999 + 1 from rfl]
  go_simp
  by_cases e : a = b
  · subst e; simp
  · rw [decide_eq_false e]
    rw [Pv.eq_iff] at e
    repeat' split
    all_goals first | rfl | exact absurd ⟨by assumption, by assumption, by assumption, by assumption, by assumption, by assumption⟩ e
/-- What is wrong with a value, by the program. -/
theorem chk_form (tag : Int) (text : List UInt8) (bits : Nat) (cls name desc : List UInt8) : (Pv.mk tag text bits cls name desc).chk 0 9 5 =
    if tag = 1 ∨ tag = 7 ∨ tag = 8 then (if Pv.mk 0 [] bits cls name desc = Pv.zero then 0 else 9)
    else if tag = 3 ∨ tag = 4 ∨ tag = 5 ∨ tag = 6 then (if Pv.mk 0 text 0 cls name desc = Pv.zero then (if (tag = 3 ∨ tag = 4) ∧ 4294967296 ≤ bits then 5 else 0) else 9)
    else if tag = 12 then (if Pv.mk 0 text bits cls [] [] = Pv.zero then 0 else 9)
    else if tag = 9 ∨ tag = 10 ∨ tag = 11 then (if Pv.mk 0 text bits [] [] [] = Pv.zero then 0 else 9)
    else 9 := by
  simp only [Pv.chk, Pv.zero, Pv.mk.injEq, true_and, and_true]
end Go.Proofs.YtkdamaomhppkgaaGreat

/- The walks of layer 19: is a value there, and is it less, by the document. -/
namespace Go.Proofs.YtkdamaomhppkgaaGreat
open Go.RowKit

set_option maxHeartbeats 4000000 in
theorem has_any (A : Option Addr) (c : Nat) (l : List Pv) (v : Pv) (w : World) (hx : Vals w A c l) (hn : l.length ≤ 140737488355328) :
    Calls Tryz.prog 38 #[.slice A l.length c, vv v] w fun e w' => e = .returned (.bool (decide (v ∈ l))) ∧ Below w.heap.size w w' := by
  have HX := Lib.hid hx
  have HE := Lib.hid (fun a x => eq_val a v x)
  have k0 := Lib.hid ((Below.refl w.heap.size w).alloc (Nat.le_refl _) (.cells #[.int .i64 v.tag, .string (bs v.text), .int .u64 v.bits, .string (bs v.cls), .string (bs v.name), .string (bs v.desc)] 36))
  have q0 := Lib.hid (vbox_new w v)
  clear hx
  unfold vv at HE ⊢
  go_enter Tryz.func38, Tryz.ntmps38
  go_wp2_with fail
  generalize w.alloc (.cells #[.int .i64 v.tag, .string (bs v.text), .int .u64 v.bits, .string (bs v.cls), .string (bs v.name), .string (bs v.desc)] 36) = W at k0 q0 ⊢
  go_loopw [9] (fun u wr => ∃ i : Nat, i ≤ l.length ∧ u = .int .i64 i ∧ v ∉ l.take i ∧ Below W.heap.size W wr) (fun u _ => l.length - (intOf u).toNat)
  case atStart => exact ⟨0, Nat.zero_le _, rfl, by simp, Below.refl _ _⟩
  case round =>
    obtain ⟨i, hil, rfl, hall, hB⟩ := hrel
    have HB := Lib.hid (k0.out.trans (hB.mono k0.out.size))
    have HB' := Lib.hid hB
    have hq := q0.out.keep hB q0.out.lt
    by_cases hi : i < l.length
    · obtain ⟨g, o, x, rfl, hg, hv, c0, c1, c2, c3, c4, c5⟩ := (HX.out.grow HB.out).at_ hi
      have p1 : decide ((i : Int) < (l.length : Int)) = true := decide_eq_true (by omega)
      have p2 : decide (i < l.length) = true := decide_eq_true hi
      have HF := Lib.hid hv
      have HA := Lib.hid hall
      have hqs := hq.lt
      have k1 := (Below.refl wr.heap.size wr).alloc (Nat.le_refl _) (.cells #[.int .i64 x.tag, .string (bs x.text), .int .u64 x.bits, .string (bs x.cls), .string (bs x.name), .string (bs x.desc)] 36)
      obtain ⟨d0, d1, d2, d3, d4, d5⟩ := hq.at_
      have HC := Lib.hid (HB.out.trans (k1.mono HB.out.size))
      have HC' := Lib.hid (HB'.out.trans (k1.mono HB'.out.size))
      clear hall hB hv hq k1
      by_cases e : x = v
      · have he := fun y => (HE.out x y).trans (by rw [decide_eq_true e])
        have HS := Lib.hid (show decide (v ∈ l) = true from decide_eq_true (e ▸ List.mem_of_getElem? HF.out))
        clear e
        go_wp2
        go_ret
        exact ⟨by rw [HS.out]; rfl, HC.out⟩
      · have he := fun y => (HE.out x y).trans (by rw [decide_eq_false e])
        have HS := Lib.hid (show v ∉ l.take (i + 1) by
          obtain ⟨h1, h2⟩ := List.getElem?_eq_some_iff.1 HF.out
          rw [List.take_succ_eq_append_getElem h1, h2, List.mem_append, List.mem_singleton]
          rintro (h | h)
          · exact HA.out h
          · exact e h.symm)
        clear e
        go_wp2
        go_roundw
        case rel => exact ⟨i + 1, by omega, by go_num, HS.out, HC'.out⟩
        case measure => simp [intOf]; omega
    · obtain rfl : i = l.length := by omega
      have p1 : decide ((l.length : Int) < (l.length : Int)) = false := decide_eq_false (by omega)
      have p2 : decide (l.length < l.length) = false := decide_eq_false (by omega)
      rw [List.take_length] at hall
      have HA := Lib.hid (show decide (v ∈ l) = false from decide_eq_false hall)
      clear hall hB hq
      go_wp2
      go_ret
      exact ⟨by rw [HA.out]; rfl, HB.out⟩

def Pv.ltB (a b : Pv) : Bool :=
  if a.tag ≠ b.tag then decide (a.tag < b.tag)
  else if a.text ≠ b.text then decide (a.text < b.text)
  else if a.bits ≠ b.bits then decide (a.bits < b.bits)
  else if a.cls ≠ b.cls then decide (a.cls < b.cls)
  else if a.name ≠ b.name then decide (a.name < b.name)
  else decide (a.desc < b.desc)
theorem Pv.ltB_eq (a b : Pv) : Pv.ltB a b = decide (Pv.lt a b) := by
  unfold Pv.ltB
  rw [Bool.eq_iff_iff, decide_eq_true_iff]
  unfold Pv.lt lexL Pv.key
  simp only
  have ht := fun (h : a.tag ≠ b.tag) => h
  by_cases h0 : a.tag = b.tag
  · by_cases h1 : a.text = b.text
    · by_cases h2 : a.bits = b.bits
      · by_cases h3 : a.cls = b.cls
        · by_cases h4 : a.name = b.name
          · simp [h0, h1, h2, h3, h4, List.lt_irrefl]
          · simp [h0, h1, h2, h3, h4, List.lt_irrefl]
        · simp [h0, h1, h2, h3, List.lt_irrefl]
      · simp [h0, h1, h2, List.lt_irrefl]
    · simp [h0, h1]
  · simp [h0]
theorem bne_nat (a b : Nat) : ((a : Int) != (b : Int)) = (a != b) := by
  rw [Bool.eq_iff_iff, bne_iff_ne, bne_iff_ne]
  omega
theorem bne_txt (a b : List UInt8) : (!(bs a).toList == (bs b).toList) = (a != b) := by
  rw [bs_list, bs_list]; rfl
theorem bless_txt (a b : List UInt8) : Op.bytesLess (bs a).toList (bs b).toList = decide (a < b) := by
  rw [bs_list, bs_list, bytesLess_eq]
set_option maxHeartbeats 4000000 in
theorem less_any (a b : Pv) (w : World) : Calls Tryz.prog 17 #[vv a, vv b] w fun e w' => e = .returned (.bool (decide (Pv.lt a b))) ∧ Below w.heap.size w w' := by
  rw [← Pv.ltB_eq]
  have k0 := Lib.hid (Below.alloc' ((Below.refl w.heap.size w).alloc (Nat.le_refl _) (.cells #[.int .i64 a.tag, .string (bs a.text), .int .u64 a.bits, .string (bs a.cls), .string (bs a.name), .string (bs a.desc)] 36)) (Nat.le_refl _) (.cells #[.int .i64 b.tag, .string (bs b.text), .int .u64 b.bits, .string (bs b.cls), .string (bs b.name), .string (bs b.desc)] 36))
  unfold vv
  go_enter Tryz.func17, Tryz.ntmps17
  go_wp2
  all_goals (go_ret; refine ⟨ret_bool ?_, k0.out⟩)
  all_goals (simp only [bne_nat, bne_txt, bne_iff_ne, bne_eq_false_iff_eq] at *; simp_all [Pv.ltB, bless_txt])
end Go.Proofs.YtkdamaomhppkgaaGreat

/- The walk of layer 19: a value put in its place, by the document. -/
namespace Go.Proofs.YtkdamaomhppkgaaGreat
open Go.RowKit

theorem putO_at (l : List Pv) (v : Pv) (k : Nat) (hk : k ≤ l.length) (h1 : ∀ x ∈ l.take k, Pv.lt x v) (h2 : k = l.length ∨ ∃ x, l[k]? = some x ∧ ¬ Pv.lt x v) (hm : v ∉ l) : putO Pv.lt l v = l.take k ++ v :: l.drop k := by
  unfold putO
  rw [if_neg hm]
  have e : ∀ (l : List Pv) (k : Nat), k ≤ l.length → (∀ x ∈ l.take k, Pv.lt x v) → (k = l.length ∨ ∃ x, l[k]? = some x ∧ ¬ Pv.lt x v) → l.takeWhile (fun x => decide (Pv.lt x v)) = l.take k ∧ l.dropWhile (fun x => decide (Pv.lt x v)) = l.drop k := by
    intro l
    induction l with
    | nil => intro k _ _ _; simp
    | cons y l ih =>
      intro k hk h1 h2
      cases k with
      | zero =>
        rcases h2 with h2 | ⟨x, h2, h3⟩
        · simp at h2
        · simp at h2
          subst h2
          simp [h3]
      | succ k =>
        have hy : Pv.lt y v := h1 y (by simp)
        obtain ⟨e1, e2⟩ := ih k (by simpa using hk) (fun x hx => h1 x (by simp [hx])) (by
          rcases h2 with h2 | ⟨x, h2, h3⟩
          · exact .inl (by simpa using h2)
          · exact .inr ⟨x, by simpa using h2, h3⟩)
        rw [List.takeWhile_cons, List.dropWhile_cons, if_pos (by simpa using hy), if_pos (by simpa using hy), e1, e2]
        simp
  obtain ⟨e1, e2⟩ := e l k hk h1 h2
  rw [e1, e2]

theorem fresh0 {x : World} {B base : Nat} (h : x.heap[B]? = some (.cells #[] 36 (0, 0))) (hb : base ≤ B) : VRow x base (.slice (some ⟨B, 0, none⟩) 0 0) [] :=
  ⟨rfl, .inr ⟨B, 0, #[], rfl, hb, h, Nat.le_refl _, by unfold maxLen; omega, rfl, rfl⟩⟩
/-- A head and a tail of a row that is read, as sources. -/
theorem Vals.take {w : World} {g o c : Nat} {xs : List Pv} (h : Vals w (some ⟨g, o, none⟩) c xs) (k : Nat) (hk : k ≤ xs.length) : Vals w (some ⟨g, o, none⟩) c (xs.take k) :=
  ⟨by rw [List.length_take]; have := h.1; omega, fun h0 => by
    rw [List.length_take] at h0
    obtain ⟨g', o', e, hg, hc⟩ := h.2 (by omega)
    refine ⟨g', o', e, hg, fun j v hv => hc j v ?_⟩
    rw [List.getElem?_take] at hv
    split at hv
    · exact hv
    · cases hv⟩
theorem Vals.drop {w : World} {g o c : Nat} {xs : List Pv} (h : Vals w (some ⟨g, o, none⟩) c xs) (k : Nat) (hk : k ≤ xs.length) : Vals w (some ⟨g, o + k * 6, none⟩) (c - k) (xs.drop k) :=
  ⟨by rw [List.length_drop]; have := h.1; omega, fun h0 => by
    rw [List.length_drop] at h0
    obtain ⟨g', o', e, hg, hc⟩ := h.2 (by omega)
    cases e
    refine ⟨g, _, rfl, hg, fun j v hv => ?_⟩
    have := hc (k + j) v (by rw [List.getElem?_drop] at hv; exact hv)
    rw [Nat.add_mul, ← Nat.add_assoc] at this
    exact this⟩
set_option maxHeartbeats 4000000 in
set_option maxRecDepth 100000 in
theorem put_none (base : Nat) (v : Pv) (w : World) (_hbase : base ≤ w.heap.size) :
    Calls Tryz.prog 37 #[.slice none 0 0, vv v] w fun e w' => ∃ u', e = .returned u' ∧ VRow w' w.heap.size u' [v] ∧ Below w.heap.size w w' := by
  have k0 := Lib.hid ((Below.refl w.heap.size w).alloc (Nat.le_refl _) (.cells #[.int .i64 v.tag, .string (bs v.text), .int .u64 v.bits, .string (bs v.cls), .string (bs v.name), .string (bs v.desc)] 36))
  have q0 := Lib.hid (vbox_new w v)
  have HH := Lib.hid (fun w => has_any none 0 [] v w (Vals.nil _ _ _) (by simp))
  unfold vv at HH ⊢
  go_enter Tryz.func37, Tryz.ntmps37
  go_wp2_with fail
  generalize w.alloc (.cells #[.int .i64 v.tag, .string (bs v.text), .int .u64 v.bits, .string (bs v.cls), .string (bs v.name), .string (bs v.desc)] 36) = W at k0 q0 ⊢
  obtain ⟨d0, d1, d2, d3, d4, d5⟩ := q0.out.at_
  have hqs := q0.out.lt
  go_wp2_with fail
  refine (HH.out _).mono ?_
  rintro e w1 ⟨rfl, hb⟩
  clear HH d0 d1 d2 d3 d4 d5
  have K1 := Lib.hid (k0.out.trans (hb.mono k0.out.size))
  have Q1 := Lib.hid (q0.out.keep hb q0.out.lt)
  clear hb hqs
  go_wp2_with fail
  go_loopw [5] (fun t wr => t = .int .i64 0 ∧ Below w1.heap.size w1 wr) (fun t _ => 0)
  case atStart => exact ⟨rfl, Below.refl _ _⟩
  case round =>
    obtain ⟨rfl, hB⟩ := hrel
    have HC := Lib.hid (K1.out.trans (hB.mono K1.out.size))
    have hq := Q1.out.keep hB Q1.out.lt
    have HQ := Lib.hid hq
    have hqs := hq.lt
    obtain ⟨d0, d1, d2, d3, d4, d5⟩ := hq.at_
    clear hB hq
    go_wp2_with fail
    refine wp_region_grow (by kernel_rfl) (by kernel_rfl) ?_
    repeat (go_big_quiet_step ((go_at_call 17; fail)))
    refine wpQuiet_nil ?_
    intro g1
    obtain ⟨w1, hb1⟩ := g1
    have HD := Lib.hid (HC.out.trans (hb1.mono HC.out.size))
    have hbl := hb1
    dsimp only
    clear hb1 d0 d1 d2 d3 d4 d5 hqs
    go_wp2_with fail
    have hbw : w.heap.size ≤ w1.heap.size := HD.out.size
    have HS2 := Lib.hid (fun A' c' y (hy : Below w1.heap.size w1 y) => (Vals.nil y A' c').src (Below.refl _ _))
    have hq1 := Lib.hid (HQ.out.keep (hbl) HQ.out.lt)
    have hqs1 := hq1.out.lt
    obtain ⟨d0, d1, d2, d3, d4, d5⟩ := hq1.out.at_
    go_region_law ((first
      | (refine step_appV rfl _ _ rfl w1.heap.size (.slice (some ⟨_, 0, none⟩) 0 0) [] rfl (fresh0 (by (first | exact heap_alloc2_new _ _ _ | exact heap_alloc2_old _ _ _ | exact heap_alloc_new _ _)) (by (first | omega | (simp; done) | (simp; omega)))) _ [] rfl (by exact HS2.out _ _ _ (by (repeat (first | exact Below.refl _ _ | exact hb2 | exact hb1 | refine Below.drew ?_ | refine Below.alloc ?_ ?_ _)); (all_goals (first | omega | (simp; done) | (simp; omega))))) (by simp; try omega) (by (first | omega | (simp; done) | (simp; omega))) ?_; intro v1 x1 hr1 hp1; have hb1 : Below w1.heap.size w1 x1 := Below.trans (by (repeat (first | exact Below.refl _ _ | exact hb2 | exact hb1 | refine Below.drew ?_ | refine Below.alloc ?_ ?_ _)); (all_goals (first | omega | (simp; done) | (simp; omega)))) (hp1.below (by (first | omega | (simp; done) | (simp; omega))) (fun k hk => by cases hk; (first | omega | (simp; done) | (simp; omega)))); have hbs1 := hb1.size; obtain ⟨e0, e1, e2, e3, e4, e5⟩ := (hq1.out.keep hb1 hq1.out.lt).at_; have hqs2 := (hq1.out.keep hb1 hq1.out.lt).lt)
      | (refine step_appV rfl _ _ rfl w1.heap.size _ ([] ++ []) rfl (by first | exact hr1 | (refine hr1.grow ?_; (repeat (first | exact Below.refl _ _ | exact hb2 | exact hb1 | refine Below.drew ?_ | refine Below.alloc ?_ ?_ _)); (all_goals (first | omega | (simp; done) | (simp; omega))))) _ [v] rfl (src_val (by first | exact heap_alloc_new _ _ | (refine (hp1.1.block _ ?_ ?_).trans ?_; rotate_left 2; (first | exact heap_alloc2_new _ _ _ | exact heap_alloc2_old _ _ _ | exact heap_alloc_new _ _); all_goals (simp [Value.ownBlock]; try omega))) 1) (by simp; try omega) (by (first | omega | (simp; done) | (simp; omega))) ?_; intro v2 x2 hr2 hp2; have hb2 : Below w1.heap.size w1 x2 := Below.trans (by (repeat (first | exact Below.refl _ _ | exact hb2 | exact hb1 | refine Below.drew ?_ | refine Below.alloc ?_ ?_ _)); (all_goals (first | omega | (simp; done) | (simp; omega)))) (hp2.below (by (first | omega | (simp; done) | (simp; omega))) (fun k hk => hr1.base_le hk)); have hbs2 := hb2.size)
      | (refine step_appV rfl _ _ rfl w1.heap.size _ ([] ++ [] ++ [v]) rfl (by first | exact hr2 | (refine hr2.grow ?_; (repeat (first | exact Below.refl _ _ | exact hb2 | exact hb1 | refine Below.drew ?_ | refine Below.alloc ?_ ?_ _)); (all_goals (first | omega | (simp; done) | (simp; omega))))) _ [] rfl (by exact HS2.out _ _ _ (by (repeat (first | exact Below.refl _ _ | exact hb2 | exact hb1 | refine Below.drew ?_ | refine Below.alloc ?_ ?_ _)); (all_goals (first | omega | (simp; done) | (simp; omega))))) (by simp; try omega) (by (first | omega | (simp; done) | (simp; omega))) ?_; intro v3 x3 hr3 hp3; have hb3 : Below w1.heap.size w1 x3 := Below.trans (by (repeat (first | exact Below.refl _ _ | exact hb2 | exact hb1 | refine Below.drew ?_ | refine Below.alloc ?_ ?_ _)); (all_goals (first | omega | (simp; done) | (simp; omega)))) (hp3.below (by (first | omega | (simp; done) | (simp; omega))) (fun k hk => hr2.base_le hk)))
      | (go_must (trace_state; fail))))
    all_goals (go_wp2; go_ret; refine ⟨v3, rfl, ?_, HD.out.trans (hb3.mono HD.out.size)⟩; have h3 := hr3.lower hbw; simpa using h3)
/-- What the call comes to: the row itself, or a new one. -/
def PutOk (base : Nat) (u : Value) (l : List Pv) (v : Pv) (w : World) (e : Ending) (w' : World) : Prop :=
  ∃ u', e = .returned u' ∧ (v ∈ l ∧ u' = u ∨ v ∉ l ∧ VRow w' w.heap.size u' (putO Pv.lt l v)) ∧ VRow w' base u' (putO Pv.lt l v) ∧ Below w.heap.size w w'
set_option maxHeartbeats 4000000 in
set_option maxRecDepth 100000 in
theorem put_any (base : Nat) (u : Value) (l : List Pv) (v : Pv) (w : World) (hx : VRow w base u l) (hn : l.length ≤ 1000000000) (hbase : base ≤ w.heap.size) :
    Calls Tryz.prog 37 #[u, vv v] w (PutOk base u l v w) := by
  rcases hx.2 with ⟨rfl, hn0⟩ | hblk0
  · obtain rfl : l = [] := List.eq_nil_of_length_eq_zero hn0
    exact (put_none base v w hbase).mono fun e w' ⟨u', h1, h2, h3⟩ => ⟨u', h1, .inr ⟨by simp, by simpa [putO] using h2⟩, by simpa [putO] using h2.lower hbase, h3⟩
  have HK := Lib.hid hblk0
  clear hblk0
  obtain ⟨A, c, rfl, hV, hA⟩ := hx.reads
  have HX := Lib.hid hV
  have HR := Lib.hid hx
  have k0 := Lib.hid ((Below.refl w.heap.size w).alloc (Nat.le_refl _) (.cells #[.int .i64 v.tag, .string (bs v.text), .int .u64 v.bits, .string (bs v.cls), .string (bs v.name), .string (bs v.desc)] 36))
  have q0 := Lib.hid (vbox_new w v)
  have HH := Lib.hid (fun w h => has_any A c l v w h (by omega))
  have HL := Lib.hid (fun x w => less_any x v w)
  have HA := Lib.hid hA
  clear hV hx hA
  unfold vv at HH HL ⊢
  go_enter Tryz.func37, Tryz.ntmps37
  go_wp2_with fail
  generalize w.alloc (.cells #[.int .i64 v.tag, .string (bs v.text), .int .u64 v.bits, .string (bs v.cls), .string (bs v.name), .string (bs v.desc)] 36) = W at k0 q0 ⊢
  refine (HH.out W (HX.out.grow k0.out)).mono ?_
  rintro e w1 ⟨rfl, hb1⟩
  have K1 := Lib.hid (k0.out.trans (hb1.mono k0.out.size))
  have Q1 := Lib.hid (q0.out.keep hb1 q0.out.lt)
  clear hb1
  by_cases hm : v ∈ l
  · have hd : decide (v ∈ l) = true := decide_eq_true hm
    have HP := Lib.hid (show putO Pv.lt l v = l from if_pos hm)
    have HM1 := Lib.hid hm
    have HR1 := Lib.hid (HR.out.grow K1.out)
    rw [hd]
    clear hm hd
    go_wp2
    go_ret
    exact ⟨_, rfl, .inl ⟨HM1.out, rfl⟩, by rw [HP.out]; exact HR1.out, K1.out⟩
  have hd : decide (v ∈ l) = false := decide_eq_false hm
  rw [hd]
  have HM := Lib.hid hm
  clear hm hd
  go_wp2_with fail
  go_loopw [5] (fun t wr => ∃ k : Nat, k ≤ l.length ∧ t = .int .i64 k ∧ (∀ x ∈ l.take k, Pv.lt x v) ∧ Below w1.heap.size w1 wr) (fun t _ => l.length - (intOf t).toNat)
  case atStart => exact ⟨0, Nat.zero_le _, rfl, by simp, Below.refl _ _⟩
  case round =>
    obtain ⟨k, hk, rfl, hlt, hB⟩ := hrel
    have HB := Lib.hid (K1.out.trans (hB.mono K1.out.size))
    have HB' := Lib.hid hB
    have hq := Q1.out.keep hB Q1.out.lt
    have HQ := Lib.hid hq
    have HLT := Lib.hid hlt
    clear hlt hB hq
    by_cases hi : k < l.length
    · obtain ⟨g, o, x, eA, hg, hv, hva⟩ := (HX.out.grow HB.out).at_ hi
      obtain ⟨hbg, ho⟩ := HA.out g o eA
      rw [ho, Nat.zero_add] at hva
      obtain ⟨c0, c1, c2, c3, c4, c5⟩ := hva
      subst eA
      subst ho
      have p1 : decide ((k : Int) < (l.length : Int)) = true := decide_eq_true (by omega)
      have p2 : decide (k < l.length) = true := decide_eq_true hi
      have HF := Lib.hid hv
      have hqs := HQ.out.lt
      obtain ⟨d0, d1, d2, d3, d4, d5⟩ := HQ.out.at_
      have hl := HL.out x
      unfold vv at hl
      have HLx := Lib.hid hl
      clear hv hl
      have fin : ∀ b : Bool, decide (Pv.lt x v) = b → True := fun _ _ => trivial
      clear fin
      by_cases hxv : Pv.lt x v
      · have hd : decide (Pv.lt x v) = true := decide_eq_true hxv
        have HS := Lib.hid (show ∀ y ∈ l.take (k + 1), Pv.lt y v by
          obtain ⟨h1, h2⟩ := List.getElem?_eq_some_iff.1 HF.out
          rw [List.take_succ_eq_append_getElem h1, h2]
          intro y hy
          rw [List.mem_append, List.mem_singleton] at hy
          rcases hy with h | rfl
          · exact HLT.out y h
          · exact hxv)
        have HLy := Lib.hid (fun w => (HLx.out w).mono fun e w' h => (show e = .returned (.bool true) ∧ Below w.heap.size w w' by rw [← hd]; exact h))
        clear hxv hd
        go_wp2_with fail
        refine wp_region_grow (by kernel_rfl) (by kernel_rfl) ?_
        repeat (go_big_quiet_step ((go_at_call 17; exact Gr.call (HLy.out _))))
        refine wpQuiet_nil ?_
        intro g1
        obtain ⟨w1, hb1⟩ := g1
        have HC := Lib.hid (HB'.out.trans (hb1.mono HB'.out.size))
        dsimp only
        clear hb1
        go_wp2
        go_roundw
        case rel => exact ⟨k + 1, by omega, by go_num, HS.out, HC.out⟩
        case measure => simp [intOf]; omega
      · have hd : decide (Pv.lt x v) = false := decide_eq_false hxv
        have HLy := Lib.hid (fun w => (HLx.out w).mono fun e w' h => (show e = .returned (.bool false) ∧ Below w.heap.size w w' by rw [← hd]; exact h))
        have HP := Lib.hid (putO_at l v k hk HLT.out (.inr ⟨x, HF.out, hxv⟩) HM.out)
        clear hxv hd
        go_wp2_with fail
        refine wp_region_grow (by kernel_rfl) (by kernel_rfl) ?_
        repeat (go_big_quiet_step ((go_at_call 17; exact Gr.call (HLy.out _))))
        refine wpQuiet_nil ?_
        intro g1
        obtain ⟨w1, hb1⟩ := g1
        have HC := Lib.hid (HB.out.trans (hb1.mono HB.out.size))
        have hbl := hb1
        dsimp only
        clear hb1
        go_wp2_with fail
        have hlc : l.length ≤ c := HX.out.1
        have hck : ¬ c = k := by omega
        have hkc : k ≤ c := by omega
        have hkl : k ≤ l.length := hk
        have hbw : base ≤ w1.heap.size := by have := HC.out.size; have := HX.out.2 (by omega); obtain ⟨g', o', e, h1, _⟩ := this; cases e; omega
        have HS1 := Lib.hid (fun y (hy : Below w1.heap.size w1 y) => by
          have h := ((HX.out.grow HC.out).take k hk).src hy
          rwa [List.length_take, Nat.min_eq_left hk] at h)
        have HS2 := Lib.hid (fun y (hy : Below w1.heap.size w1 y) => by
          have h := ((HX.out.grow HC.out).drop k hk).src hy
          rwa [List.length_drop, Nat.zero_add] at h)
        have hq1 := Lib.hid (HQ.out.keep (hbl) HQ.out.lt)
        have hqs1 := hq1.out.lt
        obtain ⟨d0, d1, d2, d3, d4, d5⟩ := hq1.out.at_
        go_region_law ((first
          | (refine step_appV rfl _ _ rfl w1.heap.size (.slice (some ⟨_, 0, none⟩) 0 0) [] rfl (fresh0 (by (first | exact heap_alloc2_new _ _ _ | exact heap_alloc2_old _ _ _ | exact heap_alloc_new _ _)) (by (first | omega | (simp; done) | (simp; omega)))) _ (l.take k) rfl (by rw [List.length_take, Nat.min_eq_left hkl]; refine HS1.out _ ?_; (repeat (first | exact Below.refl _ _ | exact hb2 | exact hb1 | refine Below.drew ?_ | refine Below.alloc ?_ ?_ _)); (all_goals (first | omega | (simp; done) | (simp; omega)))) (by simp; omega) (by (first | omega | (simp; done) | (simp; omega))) ?_; intro v1 x1 hr1 hp1; have hb1 : Below w1.heap.size w1 x1 := Below.trans (by (repeat (first | exact Below.refl _ _ | exact hb2 | exact hb1 | refine Below.drew ?_ | refine Below.alloc ?_ ?_ _)); (all_goals (first | omega | (simp; done) | (simp; omega)))) (hp1.below (by (first | omega | (simp; done) | (simp; omega))) (fun k hk => by cases hk; (first | omega | (simp; done) | (simp; omega)))); have hbs1 := hb1.size; obtain ⟨e0, e1, e2, e3, e4, e5⟩ := (hq1.out.keep hb1 hq1.out.lt).at_; have hqs2 := (hq1.out.keep hb1 hq1.out.lt).lt)
          | (refine step_appV rfl _ _ rfl w1.heap.size _ ([] ++ l.take k) rfl (by first | exact hr1 | (refine hr1.grow ?_; (repeat (first | exact Below.refl _ _ | exact hb2 | exact hb1 | refine Below.drew ?_ | refine Below.alloc ?_ ?_ _)); (all_goals (first | omega | (simp; done) | (simp; omega))))) _ [v] rfl (src_val (by first | exact heap_alloc_new _ _ | (refine (hp1.1.block _ ?_ ?_).trans ?_; rotate_left 2; (first | exact heap_alloc2_new _ _ _ | exact heap_alloc2_old _ _ _ | exact heap_alloc_new _ _); all_goals (simp [Value.ownBlock]; try omega))) 1) (by simp; omega) (by (first | omega | (simp; done) | (simp; omega))) ?_; intro v2 x2 hr2 hp2; have hb2 : Below w1.heap.size w1 x2 := Below.trans (by (repeat (first | exact Below.refl _ _ | exact hb2 | exact hb1 | refine Below.drew ?_ | refine Below.alloc ?_ ?_ _)); (all_goals (first | omega | (simp; done) | (simp; omega)))) (hp2.below (by (first | omega | (simp; done) | (simp; omega))) (fun k hk => hr1.base_le hk)); have hbs2 := hb2.size)
          | (refine step_appV rfl _ _ rfl w1.heap.size _ ([] ++ l.take k ++ [v]) rfl (by first | exact hr2 | (refine hr2.grow ?_; (repeat (first | exact Below.refl _ _ | exact hb2 | exact hb1 | refine Below.drew ?_ | refine Below.alloc ?_ ?_ _)); (all_goals (first | omega | (simp; done) | (simp; omega))))) _ (l.drop k) rfl (by rw [List.length_drop]; refine HS2.out _ ?_; (repeat (first | exact Below.refl _ _ | exact hb2 | exact hb1 | refine Below.drew ?_ | refine Below.alloc ?_ ?_ _)); (all_goals (first | omega | (simp; done) | (simp; omega)))) (by simp; omega) (by (first | omega | (simp; done) | (simp; omega))) ?_; intro v3 x3 hr3 hp3; have hb3 : Below w1.heap.size w1 x3 := Below.trans (by (repeat (first | exact Below.refl _ _ | exact hb2 | exact hb1 | refine Below.drew ?_ | refine Below.alloc ?_ ?_ _)); (all_goals (first | omega | (simp; done) | (simp; omega)))) (hp3.below (by (first | omega | (simp; done) | (simp; omega))) (fun k hk => hr2.base_le hk)))
          | (go_must (trace_state; fail))))
        all_goals (go_wp2; go_ret; have hfr : VRow _ w.heap.size v3 (putO Pv.lt l v) := (by rw [HP.out]; have h3 := hr3.lower HC.out.size; simpa using h3); exact ⟨v3, rfl, .inr ⟨HM.out, hfr⟩, hfr.lower hbase, HC.out.trans (hb3.mono HC.out.size)⟩)
    · obtain rfl : k = l.length := by omega
      have p1 : decide ((l.length : Int) < (l.length : Int)) = false := decide_eq_false (by omega)
      have p2 : decide (l.length < l.length) = false := decide_eq_false (by omega)
      have HP := Lib.hid (putO_at l v l.length hk HLT.out (.inl rfl) HM.out)
      cases A with
      | none =>
        obtain ⟨g, cap, cur, h, _⟩ := HK.out
        cases h
      | some a =>
        obtain ⟨g, rfl, hg, hgw⟩ : ∃ g, a = ⟨g, 0, none⟩ ∧ base ≤ g ∧ g < w.heap.size := by
          rcases HR.out.2 with ⟨h, _⟩ | ⟨g, cap, cur, h, h1, h2, _⟩
          · cases h
          · cases h; exact ⟨g, rfl, h1, (Array.getElem?_eq_some_iff.1 h2).1⟩
        go_wp2_with fail
        refine wp_region_grow (by kernel_rfl) (by kernel_rfl) ?_
        repeat (go_big_quiet_step ((go_at_call 17; fail)))
        refine wpQuiet_nil ?_
        intro g1
        obtain ⟨w1, hb1⟩ := g1
        have HC := Lib.hid (HB.out.trans (hb1.mono HB.out.size))
        have hbl := hb1
        dsimp only
        clear hb1
        go_wp2_with fail
        have hlc : l.length ≤ c := HX.out.1
        have hbw : base ≤ w1.heap.size := by have := HC.out.size; omega
        have hkl : l.length ≤ l.length := Nat.le_refl _
        have HS1 := Lib.hid (fun y (hy : Below w1.heap.size w1 y) => by
          have h := ((HX.out.grow HC.out).take l.length hk).src hy
          rwa [List.length_take, Nat.min_eq_left hk] at h)
        have HS2 := Lib.hid (fun A' c' y (hy : Below w1.heap.size w1 y) => (Vals.nil y A' c').src (Below.refl _ _))
        have hq1 := Lib.hid (HQ.out.keep (hbl) HQ.out.lt)
        have hqs1 := hq1.out.lt
        obtain ⟨d0, d1, d2, d3, d4, d5⟩ := hq1.out.at_
        have hdr : l.drop l.length = [] := List.drop_length
        by_cases hck : c = l.length
        · subst hck
          go_region_law ((first
            | (refine step_appV rfl _ _ rfl w1.heap.size (.slice (some ⟨_, 0, none⟩) 0 0) [] rfl (fresh0 (by (first | exact heap_alloc2_new _ _ _ | exact heap_alloc2_old _ _ _ | exact heap_alloc_new _ _)) (by (first | omega | (simp; done) | (simp; omega)))) _ (l.take l.length) rfl (by rw [List.length_take, Nat.min_eq_left hkl]; refine HS1.out _ ?_; (repeat (first | exact Below.refl _ _ | exact hb2 | exact hb1 | refine Below.drew ?_ | refine Below.alloc ?_ ?_ _)); (all_goals (first | omega | (simp; done) | (simp; omega)))) (by simp; omega) (by (first | omega | (simp; done) | (simp; omega))) ?_; intro v1 x1 hr1 hp1; have hb1 : Below w1.heap.size w1 x1 := Below.trans (by (repeat (first | exact Below.refl _ _ | exact hb2 | exact hb1 | refine Below.drew ?_ | refine Below.alloc ?_ ?_ _)); (all_goals (first | omega | (simp; done) | (simp; omega)))) (hp1.below (by (first | omega | (simp; done) | (simp; omega))) (fun k hk => by cases hk; (first | omega | (simp; done) | (simp; omega)))); have hbs1 := hb1.size; obtain ⟨e0, e1, e2, e3, e4, e5⟩ := (hq1.out.keep hb1 hq1.out.lt).at_; have hqs2 := (hq1.out.keep hb1 hq1.out.lt).lt)
            | (refine step_appV rfl _ _ rfl w1.heap.size _ ([] ++ l.take l.length) rfl (by first | exact hr1 | (refine hr1.grow ?_; (repeat (first | exact Below.refl _ _ | exact hb2 | exact hb1 | refine Below.drew ?_ | refine Below.alloc ?_ ?_ _)); (all_goals (first | omega | (simp; done) | (simp; omega))))) _ [v] rfl (src_val (by first | exact heap_alloc_new _ _ | (refine (hp1.1.block _ ?_ ?_).trans ?_; rotate_left 2; (first | exact heap_alloc2_new _ _ _ | exact heap_alloc2_old _ _ _ | exact heap_alloc_new _ _); all_goals (simp [Value.ownBlock]; try omega))) 1) (by simp; omega) (by (first | omega | (simp; done) | (simp; omega))) ?_; intro v2 x2 hr2 hp2; have hb2 : Below w1.heap.size w1 x2 := Below.trans (by (repeat (first | exact Below.refl _ _ | exact hb2 | exact hb1 | refine Below.drew ?_ | refine Below.alloc ?_ ?_ _)); (all_goals (first | omega | (simp; done) | (simp; omega)))) (hp2.below (by (first | omega | (simp; done) | (simp; omega))) (fun k hk => hr1.base_le hk)); have hbs2 := hb2.size)
            | (refine step_appV rfl _ _ rfl w1.heap.size _ ([] ++ l.take l.length ++ [v]) rfl (by first | exact hr2 | (refine hr2.grow ?_; (repeat (first | exact Below.refl _ _ | exact hb2 | exact hb1 | refine Below.drew ?_ | refine Below.alloc ?_ ?_ _)); (all_goals (first | omega | (simp; done) | (simp; omega))))) _ [] rfl (by exact HS2.out _ _ _ (by (repeat (first | exact Below.refl _ _ | exact hb2 | exact hb1 | refine Below.drew ?_ | refine Below.alloc ?_ ?_ _)); (all_goals (first | omega | (simp; done) | (simp; omega))))) (by simp; omega) (by (first | omega | (simp; done) | (simp; omega))) ?_; intro v3 x3 hr3 hp3; have hb3 : Below w1.heap.size w1 x3 := Below.trans (by (repeat (first | exact Below.refl _ _ | exact hb2 | exact hb1 | refine Below.drew ?_ | refine Below.alloc ?_ ?_ _)); (all_goals (first | omega | (simp; done) | (simp; omega)))) (hp3.below (by (first | omega | (simp; done) | (simp; omega))) (fun k hk => hr2.base_le hk)))
            | (go_must (trace_state; fail))))
          all_goals (go_wp2; go_ret; have hfr : VRow _ w.heap.size v3 (putO Pv.lt l v) := (by rw [HP.out]; have h3 := hr3.lower HC.out.size; simpa using h3); exact ⟨v3, rfl, .inr ⟨HM.out, hfr⟩, hfr.lower hbase, HC.out.trans (hb3.mono HC.out.size)⟩)
        · have hck' : ¬ l.length = c := fun h => hck h.symm
          go_region_law ((first
            | (refine step_appV rfl _ _ rfl w1.heap.size (.slice (some ⟨_, 0, none⟩) 0 0) [] rfl (fresh0 (by (first | exact heap_alloc2_new _ _ _ | exact heap_alloc2_old _ _ _ | exact heap_alloc_new _ _)) (by (first | omega | (simp; done) | (simp; omega)))) _ (l.take l.length) rfl (by rw [List.length_take, Nat.min_eq_left hkl]; refine HS1.out _ ?_; (repeat (first | exact Below.refl _ _ | exact hb2 | exact hb1 | refine Below.drew ?_ | refine Below.alloc ?_ ?_ _)); (all_goals (first | omega | (simp; done) | (simp; omega)))) (by simp; omega) (by (first | omega | (simp; done) | (simp; omega))) ?_; intro v1 x1 hr1 hp1; have hb1 : Below w1.heap.size w1 x1 := Below.trans (by (repeat (first | exact Below.refl _ _ | exact hb2 | exact hb1 | refine Below.drew ?_ | refine Below.alloc ?_ ?_ _)); (all_goals (first | omega | (simp; done) | (simp; omega)))) (hp1.below (by (first | omega | (simp; done) | (simp; omega))) (fun k hk => by cases hk; (first | omega | (simp; done) | (simp; omega)))); have hbs1 := hb1.size; obtain ⟨e0, e1, e2, e3, e4, e5⟩ := (hq1.out.keep hb1 hq1.out.lt).at_; have hqs2 := (hq1.out.keep hb1 hq1.out.lt).lt)
            | (refine step_appV rfl _ _ rfl w1.heap.size _ ([] ++ l.take l.length) rfl (by first | exact hr1 | (refine hr1.grow ?_; (repeat (first | exact Below.refl _ _ | exact hb2 | exact hb1 | refine Below.drew ?_ | refine Below.alloc ?_ ?_ _)); (all_goals (first | omega | (simp; done) | (simp; omega))))) _ [v] rfl (src_val (by first | exact heap_alloc_new _ _ | (refine (hp1.1.block _ ?_ ?_).trans ?_; rotate_left 2; (first | exact heap_alloc2_new _ _ _ | exact heap_alloc2_old _ _ _ | exact heap_alloc_new _ _); all_goals (simp [Value.ownBlock]; try omega))) 1) (by simp; omega) (by (first | omega | (simp; done) | (simp; omega))) ?_; intro v2 x2 hr2 hp2; have hb2 : Below w1.heap.size w1 x2 := Below.trans (by (repeat (first | exact Below.refl _ _ | exact hb2 | exact hb1 | refine Below.drew ?_ | refine Below.alloc ?_ ?_ _)); (all_goals (first | omega | (simp; done) | (simp; omega)))) (hp2.below (by (first | omega | (simp; done) | (simp; omega))) (fun k hk => hr1.base_le hk)); have hbs2 := hb2.size)
            | (refine step_appV rfl _ _ rfl w1.heap.size _ ([] ++ l.take l.length ++ [v]) rfl (by first | exact hr2 | (refine hr2.grow ?_; (repeat (first | exact Below.refl _ _ | exact hb2 | exact hb1 | refine Below.drew ?_ | refine Below.alloc ?_ ?_ _)); (all_goals (first | omega | (simp; done) | (simp; omega))))) _ [] rfl (by exact HS2.out _ _ _ (by (repeat (first | exact Below.refl _ _ | exact hb2 | exact hb1 | refine Below.drew ?_ | refine Below.alloc ?_ ?_ _)); (all_goals (first | omega | (simp; done) | (simp; omega))))) (by simp; omega) (by (first | omega | (simp; done) | (simp; omega))) ?_; intro v3 x3 hr3 hp3; have hb3 : Below w1.heap.size w1 x3 := Below.trans (by (repeat (first | exact Below.refl _ _ | exact hb2 | exact hb1 | refine Below.drew ?_ | refine Below.alloc ?_ ?_ _)); (all_goals (first | omega | (simp; done) | (simp; omega)))) (hp3.below (by (first | omega | (simp; done) | (simp; omega))) (fun k hk => hr2.base_le hk)))
            | (go_must (trace_state; fail))))
          all_goals (go_wp2; go_ret; have hfr : VRow _ w.heap.size v3 (putO Pv.lt l v) := (by rw [HP.out]; have h3 := hr3.lower HC.out.size; simpa using h3); exact ⟨v3, rfl, .inr ⟨HM.out, hfr⟩, hfr.lower hbase, HC.out.trans (hb3.mono HC.out.size)⟩)
end Go.Proofs.YtkdamaomhppkgaaGreat

/- Rows of the call's own that may begin behind their block's head (popped from the front): append onto them. No program. -/
namespace Go.Proofs.YtkdamaomhppkgaaGreat
open Go.RowKit

/-- A row of the call's own; its first element may stand anywhere in its block. -/
def OffRow (w : World) (base : Nat) (e : TypeId) (size : Nat) (v : Value) (n : Nat) (xs : List Value) : Prop :=
  xs.length = n * size ∧
  ((v = .slice none 0 0 ∧ n = 0) ∨
   ∃ g o cap cur, v = .slice (some ⟨g, o, none⟩) n cap ∧ base ≤ g ∧ w.heap[g]? = some (.cells cur e (0, 0)) ∧ n ≤ cap ∧ cap ≤ maxLen ∧ o + cap * size ≤ cur.size ∧ (cur.toList.drop o).take (n * size) = xs)
section
variable {w w1 : World} {base : Nat} {e : TypeId} {size n : Nat} {v : Value} {xs : List Value}
theorem OffRow.of_own (h : w.ownsRow base e size v n xs) : OffRow w base e size v n xs := by
  refine ⟨h.1, ?_⟩
  rcases h.2 with h2 | ⟨g, cap, cur, rfl, h1, h2, h3, h4, h5, h6⟩
  · exact .inl h2
  · exact .inr ⟨g, 0, cap, cur, rfl, h1, h2, h3, h4, by omega, by simpa using h6⟩
theorem OffRow.nil (w : World) (base : Nat) (e : TypeId) (size : Nat) : OffRow w base e size (.slice none 0 0) 0 [] := ⟨by simp, .inl ⟨rfl, rfl⟩⟩
theorem OffRow.kept {row : Option Nat} (h : OffRow w base e size v n xs) (g : w.grownBy w1 row) (hne : row = none ∨ row ≠ v.ownBlock) : OffRow w1 base e size v n xs := by
  refine ⟨h.1, ?_⟩
  rcases h.2 with h2 | ⟨b, o, cap, cur, rfl, h1, h2, h3⟩
  · exact .inl h2
  · refine .inr ⟨b, o, cap, cur, rfl, h1, (g.block b (Array.getElem?_eq_some_iff.1 h2).1 ?_).trans h2, h3⟩
    intro e1
    rcases hne with hne | hne
    · rw [hne] at e1; cases e1
    · exact hne e1.symm
theorem OffRow.grow (h : OffRow w base e size v n xs) (k : Below w.heap.size w w1) : OffRow w1 base e size v n xs := h.kept (grownBy_below k none) (.inl rfl)
theorem OffRow.lower {b' : Nat} (h : OffRow w base e size v n xs) (hb : b' ≤ base) : OffRow w b' e size v n xs := by
  refine ⟨h.1, ?_⟩
  rcases h.2 with h2 | ⟨b, o, cap, cur, rfl, h1, h2⟩
  · exact .inl h2
  · exact .inr ⟨b, o, cap, cur, rfl, Nat.le_trans hb h1, h2⟩
theorem OffRow.base_le (h : OffRow w base e size v n xs) {k : Nat} (hk : v.ownBlock = some k) : base ≤ k ∧ k < w.heap.size := by
  rcases h.2 with ⟨rfl, _⟩ | ⟨b, o, cap, cur, rfl, h1, h2, _⟩
  · cases hk
  · cases hk; exact ⟨h1, (Array.getElem?_eq_some_iff.1 h2).1⟩
theorem OffRow.ne {L : Nat} {C : Array Value} {t : TypeId} {fr : Nat × Nat} (h : OffRow w base e size v n xs) (hL : w.heap[L]? = some (.cells C t fr)) (ht : t ≠ e) : some L ≠ v.ownBlock := by
  intro e1
  rcases h.2 with ⟨rfl, _⟩ | ⟨g, o, cap, cur, rfl, _, hg, _⟩
  · simp [Value.ownBlock] at e1
  · simp [Value.ownBlock] at e1
    subst e1
    rw [hL] at hg
    simp at hg
    exact ht hg.2.1
theorem OffRow.ne_obj {L : Nat} {ob : Obj} (h : OffRow w base e size v n xs) (hL : w.heap[L]? = some ob) (ht : ∀ cur, ob ≠ .cells cur e (0, 0)) : some L ≠ v.ownBlock := by
  intro e1
  rcases h.2 with ⟨rfl, _⟩ | ⟨g, o, cap, cur, rfl, _, hg, _⟩
  · simp [Value.ownBlock] at e1
  · simp [Value.ownBlock] at e1
    subst e1
    rw [hL] at hg
    exact ht _ (Option.some.inj hg)
theorem OffRow.cells {g o m cap : Nat} (h : OffRow w base e size (.slice (some ⟨g, o, none⟩) m cap) n xs) (j : Nat) (u : Value) (hj : xs[j]? = some u) : w.cell? ⟨g, o + j, none⟩ = some u := by
  rcases h.2 with ⟨h0, _⟩ | ⟨g', o', cap', cur, hv, h1, h2, h3, h4, h5, h6⟩
  · cases h0
  · cases hv
    rw [cell_of_row w g (o + j) cur e (0, 0) h2]
    rw [← h6] at hj
    have hlt : j < n * size := by
      have := (List.getElem?_eq_some_iff.1 hj).1
      simp at this; omega
    rw [List.getElem?_take_of_lt hlt, List.getElem?_drop] at hj
    simpa using hj
/-- The row without its first element. -/
theorem OffRow.next {x ys : List Value} {g o cap : Nat} (h : OffRow w base e size (.slice (some ⟨g, o, none⟩) (n + 1) cap) (n + 1) (x ++ ys)) (hx : x.length = size) :
    OffRow w base e size (.slice (some (if cap = 1 then ⟨g, o, none⟩ else ⟨g, o + size, none⟩)) n (cap - 1)) n ys := by
  have hl : ys.length = n * size := by
    have := h.1
    rw [List.length_append, hx, Nat.add_mul] at this
    omega
  refine ⟨hl, ?_⟩
  rcases h.2 with ⟨h0, _⟩ | ⟨g', o', cap', cur, hv, h1, h2, h3, h4, h5, h6⟩
  · cases h0
  · cases hv
    by_cases hc : cap = 1
    · subst hc
      have hn : n = 0 := by omega
      subst hn
      refine .inr ⟨g, o, 0, cur, by simp, h1, h2, Nat.le_refl _, by omega, by omega, ?_⟩
      have : ys = [] := List.eq_nil_of_length_eq_zero (by simpa using hl)
      rw [this]; simp
    · refine .inr ⟨g, o + size, cap - 1, cur, by simp [hc], h1, h2, by omega, by omega, ?_, ?_⟩
      · have e1 : cap * size = (cap - 1) * size + size := by
          rw [← Nat.succ_mul]; congr 1; omega
        omega
      · have h7 := congrArg (List.drop size) h6
        rw [List.drop_take, List.drop_drop, List.drop_left' hx, Nat.add_mul] at h7
        rw [← h7]
        congr 1
        omega
/-- The row without its last element. -/
theorem OffRow.pop {x ys : List Value} {g o cap : Nat} (h : OffRow w base e size (.slice (some ⟨g, o, none⟩) (n + 1) cap) (n + 1) (ys ++ x)) (hy : ys.length = n * size) :
    OffRow w base e size (.slice (some ⟨g, o, none⟩) n cap) n ys := by
  refine ⟨hy, ?_⟩
  rcases h.2 with ⟨h0, _⟩ | ⟨g', o', cap', cur, hv, h1, h2, h3, h4, h5, h6⟩
  · cases h0
  · cases hv
    refine .inr ⟨g, o, cap, cur, rfl, h1, h2, by omega, h4, h5, ?_⟩
    have h7 := congrArg (List.take (n * size)) h6
    rw [List.take_take, Nat.min_eq_left (Nat.mul_le_mul_right _ (by omega)), List.take_left' hy] at h7
    exact h7
end
theorem off_addr (g o j : Nat) : Addr.add ⟨g, o, none⟩ j = ⟨g, o + j, none⟩ := by unfold Addr.add; split <;> simp_all
section
variable {P : Program}
theorem run_append_off (w : World) (t tx ty e : TypeId) (base : Nat) (i : TypeInfo) (z : Value) (size bytes : Nat) (ht : P.underlying t = some (.slice e)) (hi : P.info? e = some i) (hz : i.zero = some z)
    (hsize : i.size = size) (hby : i.bytes = bytes) (hzs : z.cells.size = size)
    (v : Value) (n : Nat) (xs : List Value) (hown : OffRow w base e size v n xs) (x : Value) (m : Nat) (news : List Value) (hs : Src P size tx x m news w)
    (h63 : n + m ≤ maxLen) (hbytes : (n + m) * bytes ≤ 140737488355328) (hbase : base ≤ w.heap.size) :
    ∃ v' w', (Builtin.append_ #[t, tx] ty #[v, x]).run P w = .ok v' w' ∧ OffRow w' base e size v' (n + m) (xs ++ news) ∧ Hop w w' v.ownBlock v'.ownBlock := by
  rcases hown.2 with ⟨rfl, rfl⟩ | ⟨g, o, cap, cur, rfl, hbg, hg, hnc, hcm, hcs, htake⟩
  · have h0 : w.ownsRow base e size (.slice none 0 0) 0 xs := ⟨hown.1, .inl ⟨rfl, rfl⟩⟩
    obtain ⟨v', w', h1, h2, h3⟩ := run_append_row w t tx ty e base i z size bytes ht hi hz hsize hby hzs _ 0 xs h0 x m news hs h63 hbytes hbase
    exact ⟨v', w', h1, OffRow.of_own h2, h3⟩
  · subst hsize hby
    have hmax : ((n + m : Nat) : Int) ≤ 9223372036854775807 := by unfold maxLen at h63; omega
    have hlen : (xs ++ news).length = (n + m) * i.size := by rw [List.length_append, hown.1, hs.newsLen, Nat.add_mul]
    by_cases hroom : n + m ≤ cap
    · have hspan : o + n * i.size + news.length ≤ cur.size := by
        have h1 : (n + m) * i.size ≤ cap * i.size := Nat.mul_le_mul_right _ hroom
        rw [Nat.add_mul] at h1
        rw [hs.newsLen]; omega
      have hcell : ∀ j, w.cell? ⟨g, j, none⟩ = cur[j]? := fun j => cell_of_row w g j cur e (0, 0) hg
      have hr := run_append_room_src (P := P) w t tx ty e i ht hi g o n cap x m news hs hroom (fun j hj => by rw [hcell]; simp; omega) (fun j hj => by simp [World.frozen?, hg])
      rw [setCells_eq_setRow g e (0, 0) news (o + n * i.size) w cur hg hspan] at hr
      refine ⟨_, _, hr, ⟨hlen, .inr ⟨g, o, cap, _, rfl, hbg, setRow_heap w g cur _ e (0, 0) hg, hroom, hcm, ?_, ?_⟩⟩, ⟨rfl, rfl, rfl, by simp, fun k _ hne => setRow_other w g k _ (fun hh => hne (by rw [hh]; rfl))⟩, .inl rfl⟩
      · simp only [List.size_toArray, List.length_append, List.length_take, List.length_drop, Array.length_toList]
        rw [Nat.min_eq_left (by omega)]
        omega
      · show (List.drop o (cur.toList.take (o + n * i.size) ++ news ++ cur.toList.drop (o + n * i.size + news.length))).take ((n + m) * i.size) = xs ++ news
        have h1 : cur.toList.take (o + n * i.size) = cur.toList.take o ++ xs := by
          rw [List.take_add, htake]
        have h2 : (cur.toList.take o).length = o := by rw [List.length_take, Array.length_toList]; omega
        rw [h1, List.append_assoc, List.append_assoc, List.drop_left' h2, ← hlen, ← List.append_assoc]
        exact List.take_left
    · have hold : (Builtin.firstCells i.size n (.slice (some ⟨g, o, none⟩) n cap)).run P w.drew = .ok xs.toArray w.drew := by
        refine run_firstCells_some (P := P) w.drew i.size n ⟨g, o, none⟩ n cap xs hown.1 fun j u hj => ?_
        have := hown.cells j u hj
        rw [off_addr]
        exact this
      have hr := run_append_grow_src (P := P) w t tx ty e i z ht hi hz (some ⟨g, o, none⟩) n cap xs hold x m news hs (by omega) hmax (growslice_fits (by omega) hbytes)
      refine ⟨_, _, hr, OffRow.of_own ⟨hlen, .inr ⟨w.heap.size, _, _, rfl, hbase, heap_alloc_new w.drew _, grownCap_ge w (n + m) cap e, grownCap_le_maxLen w (n + m) cap e h63, ?_, ?_⟩⟩, ⟨rfl, rfl, rfl, by simp, fun k hk _ => heap_alloc_old w.drew _ hk⟩, .inr ⟨_, Nat.le_refl _, rfl⟩⟩
      · have := grownCap_ge w (n + m) cap e
        simp only [Array.size_append, List.size_toArray, size_zeroCells, hzs, hlen, ← Nat.add_mul]
        congr 1
        omega
      · simp only [Array.toList_append]
        rw [← hlen]
        exact List.take_left
/-- At the list of a plain region's operations. -/
theorem wpList_append_off {w : World} {ops : Array Oper} {rest : List Oper} {o : Oper} {a : Act} {Q : Exit → Act → World → Prop} (hgd : o.guard = none) (s x : Operand) (t tx : TypeId)
    (ho : o.op = .call { callee := .builtin .append, args := #[s, x], argTypes := #[t, tx] })
    (base : Nat) (e : TypeId) (i : TypeInfo) (z : Value) (size bytes : Nat) (ht : P.underlying t = some (.slice e)) (hi : P.info? e = some i) (hz : i.zero = some z)
    (hsize : i.size = size) (hby : i.bytes = bytes) (hzs : z.cells.size = size)
    (v : Value) (n : Nat) (xs : List Value) (hv : a.eval s = v) (hown : OffRow w base e size v n xs)
    (X : Value) (m : Nat) (news : List Value) (hX : a.eval x = X)
    (h : ∀ v' w', OffRow w' base e size v' (n + m) (xs ++ news) → Hop w w' v.ownBlock v'.ownBlock → wpList P ops Q rest (a.put o.dst v') w')
    (hs : Src P size tx X m news w) (h63 : n + m ≤ maxLen) (hbytes : (n + m) * bytes ≤ 140737488355328) (hbase : base ≤ w.heap.size) : wpList P ops Q (o :: rest) a w :=
  wpList_plain hgd fun _ hK => by
    obtain ⟨v', w', hr, h2, h3⟩ := run_append_off w t tx o.type e base i z size bytes ht hi hz hsize hby hzs v n xs hown X m news hs h63 hbytes hbase
    unfold Oper.wp execOp
    simp only [ho, resolve, invoke, builtin, Sem.run_bind, Sem.run_pure, Result.andThen_ok, List.map_toArray, List.map_cons, List.map_nil, hv, hX, hr]
    exact hK _ _ (h v' w' h2 h3)
end
end Go.Proofs.YtkdamaomhppkgaaGreat
