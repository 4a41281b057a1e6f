/- Files that are read, and rows of them; sets of numbers. -/
import Derived.Test.YtdgoffpfcgipkaaPlain
import Derived.Test.YtdgoffpfcgipkaaInts
import Derived.Test.YtdgoffpfcgipkaaTexts
import Derived.Test.YtdgoffpfcgipkaaBytes
import Derived.Maps.OwnSet
namespace Go.Proofs.Ytdgoffpfcgipkaa
open Go.RowKit Go.Maps

/-! ### Sets of numbers -/
theorem lawI : Keyed Try.prog 3 := int_keyed Try.underlying3
noncomputable abbrev RB := plainElem (H := Unit) Try.prog 4
def putI (ks : List Int) (k : Int) : List Int := if ks.contains k then ks else ks ++ [k]
def ISet (w : World) (b n : Nat) (ks : List Int) : Prop := ∃ D : DataW Unit, w.ownsMap Try.prog 3 RB b n D ∧ (∀ k, Maps.has D (.int .i64 k) = ks.contains k) ∧ Maps.size D = ks.length
theorem keyI {x : Int} (h : I64 x) : keyOf Try.prog 3 (.int .i64 x) = some (.int .i64 x) := keyOf_int_mk Try.underlying3 (WalkArith.wf_i64 h)
theorem ISet.made (w : World) : ISet (w.alloc (.map #[] 0)) w.heap.size 0 [] := ⟨.map [], World.ownsMap_made _ _ _ _, fun _ => rfl, rfl⟩
theorem ISet.keep {w w' : World} {b n : Nat} {ks : List Int} (h : ISet w b n ks) (k : Below w.heap.size w w') : ISet w' b n ks := by
  obtain ⟨D, h1, h2⟩ := h
  exact ⟨D, h1.kept (grownBy_below k none) (by simp), h2⟩
theorem ISet.kept {w w' : World} {b n : Nat} {ks : List Int} {o : Option Nat} (h : ISet w b n ks) (k : w.grownBy w' o) (hne : some b ≠ o) : ISet w' b n ks := by
  obtain ⟨D, h1, h2⟩ := h
  exact ⟨D, h1.kept k hne, h2⟩
theorem ISet.lt {w : World} {b n : Nat} {ks : List Int} (h : ISet w b n ks) : b < w.heap.size := by
  obtain ⟨D, h1, _⟩ := h
  exact h1.lt
/-- A block that holds cells is no set. -/
theorem ISet.ne {w : World} {b n g : Nat} {ks : List Int} {c : Array Value} {t : TypeId} {fr : Nat × Nat} (h : ISet w b n ks) (hg : w.heap[g]? = some (.cells c t fr)) : b ≠ g := by
  rintro rfl
  obtain ⟨D, ⟨es, clock, hb, _⟩, _⟩ := h
  rw [hg] at hb
  cases hb
theorem ISet.put {w w1 : World} {b n m : Nat} {D : DataW Unit} {ks : List Int} {x : Int} (hown : w.ownsMap Try.prog 3 RB b n D) (h2 : ∀ k, Maps.has D (.int .i64 k) = ks.contains k) (h3 : Maps.size D = ks.length)
    (h1 : w1.ownsMap Try.prog 3 RB b m (D.put (.int .i64 x) (.lit (.bool true)))) : ISet w1 b m (putI ks x) := by
  refine ⟨_, h1, fun k => ?_, ?_⟩
  · by_cases e : k = x
    · subst e
      rw [has_put_same (k := .int .i64 k) hown.isMap (show WideAt.IsKeyLit (.int .i64 k) from trivial)]
      unfold putI
      split
      · rename_i h; exact h.symm
      · simp
    · rw [has_put_other (fun h => e (by injection h)), h2 k]
      unfold putI
      split
      · rfl
      · rw [Bool.eq_iff_iff]; simp [e]
  · rw [size_put (hown.tidy lawI), h2 x, h3]
    unfold putI
    split <;> simp
/-- All numbers below n are there: there are as many. -/
theorem full_le : ∀ (n : Nat) (ks : List Int), (∀ k : Nat, k < n → ks.contains (k : Int) = true) → n ≤ ks.length
  | 0, _, _ => Nat.zero_le _
  | n + 1, ks, h => by
    have hm : (n : Int) ∈ ks := by simpa using h n (by omega)
    have := full_le n (ks.erase (n : Int)) fun k hk => by
      have h1 : (k : Int) ∈ ks := by simpa using h k (by omega)
      simpa using (List.mem_erase_of_ne (by omega)).2 h1
    rw [List.length_erase_of_mem hm] at this
    have := List.length_pos_of_mem hm
    omega
def setI (l : List Int) : List Int := l.foldl putI []
theorem setI_mem (l : List Int) (k : Int) : (setI l).contains k = l.contains k := by
  have aux : ∀ (l ks : List Int), (l.foldl putI ks).contains k = (ks.contains k || l.contains k) := by
    intro l
    induction l with
    | nil => intro ks; simp
    | cons x l ih =>
      intro ks
      rw [List.foldl_cons, ih]
      unfold putI
      split
      · rename_i h
        rw [Bool.eq_iff_iff]
        simp at h ⊢
        constructor
        · rintro (h1 | h1)
          · exact .inl h1
          · exact .inr (.inr h1)
        · rintro (h1 | h1 | h1)
          · exact .inl h1
          · exact .inl (h1 ▸ h)
          · exact .inr h1
      · rw [Bool.eq_iff_iff]; simp [or_assoc]
  have := aux l []
  simpa [setI] using this

/-! ### Files -/
/-- Bytes of a file: a row that is read, which lies in a block of bytes. -/
def Dat (w : World) (B : Option Addr) (d : Nat) (l : List UInt8) : Prop := BAt w B d l ∧ (0 < l.length → ∀ g o, B = some ⟨g, o, none⟩ → ∃ cur fr, w.heap[g]? = some (.cells cur 5 fr))
theorem Dat.hop {w w' : World} {B : Option Addr} {d : Nat} {l : List UInt8} {r : Option Nat} (h : Dat w B d l) (k : w.grownBy w' r) (hr : ∀ g, r = some g → ∀ cur fr, w.heap[g]? ≠ some (.cells cur 5 fr)) : Dat w' B d l := by
  have key : 0 < l.length → ∀ g o, B = some ⟨g, o, none⟩ → w'.heap[g]? = w.heap[g]? ∧ g < w.heap.size := fun hp g o e => by
    obtain ⟨cur, fr, hc⟩ := h.2 hp g o e
    have hl := (Array.getElem?_eq_some_iff.1 hc).1
    exact ⟨k.block g hl (fun e2 => hr g e2.symm cur fr hc), hl⟩
  refine ⟨⟨h.1.1, fun hp => ?_⟩, fun hp g o e => ?_⟩
  · obtain ⟨g, o, e, hg, hc⟩ := h.1.2 hp
    obtain ⟨k1, k2⟩ := key hp g o e
    exact ⟨g, o, e, Nat.lt_of_lt_of_le hg k.size, fun j x hx => (World.cell?_of_block (a := ⟨g, o + j, none⟩) k1).trans (hc j x hx)⟩
  · obtain ⟨cur, fr, hc⟩ := h.2 hp g o e
    exact ⟨cur, fr, (key hp g o e).1.trans hc⟩
theorem Dat.grow {w w' : World} {B : Option Addr} {d : Nat} {l : List UInt8} (h : Dat w B d l) (k : Below w.heap.size w w') : Dat w' B d l := h.hop (r := none) (grownBy_below k none) (fun g e => by cases e)
theorem Dat.nil (w : World) (B : Option Addr) (d : Nat) : Dat w B d [] := ⟨BAt.nil _ _ _, fun h => by simp at h⟩
/-- A file's five cells. -/
def fc (f : Fi) (B : Option Addr) (d : Nat) : List Value := [.string (bs f.name), .int .u16 (f.date : Int), .int .u16 (f.clock : Int), .bool f.cls, .slice B f.data.length d]
def FilesAt (w : World) (A : Option Addr) (c : Nat) (xs : List Fi) : Prop :=
  xs.length ≤ c ∧ (0 < xs.length → ∃ g o, A = some ⟨g, o, none⟩ ∧ g < w.heap.size ∧ ∀ (j : Nat) f, xs[j]? = some f → f.ok ∧ ∃ B d, BAt w B d f.data ∧ ∀ (i : Nat) u, (fc f B d)[i]? = some u → w.cell? ⟨g, o + j * 5 + i, none⟩ = some u)
theorem FilesAt.grow {w w' : World} {A : Option Addr} {c : Nat} {xs : List Fi} (h : FilesAt w A c xs) (k : Below w.heap.size w w') : FilesAt w' A c xs :=
  ⟨h.1, fun hp => by
    obtain ⟨g, o, e, hg, hc⟩ := h.2 hp
    refine ⟨g, o, e, Nat.lt_of_lt_of_le hg k.size, fun j f hf => ?_⟩
    obtain ⟨h1, B, d, h2, h3⟩ := hc j f hf
    exact ⟨h1, B, d, h2.grow k, fun i u hu => (k.cell (p := ⟨g, _, none⟩) hg).trans (h3 i u hu)⟩⟩
theorem FilesAt.nil (w : World) (A : Option Addr) (c : Nat) : FilesAt w A c [] := ⟨Nat.zero_le _, fun h => by simp at h⟩
theorem FilesAt.at_ {w : World} {A : Option Addr} {c : Nat} {xs : List Fi} (h : FilesAt w A c xs) {i : Nat} (hi : i < xs.length) : ∃ g o f B d, A = some ⟨g, o, none⟩ ∧ g < w.heap.size ∧ xs[i]? = some f ∧ f.ok ∧ BAt w B d f.data ∧
    w.cell? ⟨g, o + i * 5, none⟩ = some (.string (bs f.name)) ∧ w.cell? ⟨g, o + i * 5 + 1, none⟩ = some (.int .u16 (f.date : Int)) ∧ w.cell? ⟨g, o + i * 5 + 2, none⟩ = some (.int .u16 (f.clock : Int)) ∧ w.cell? ⟨g, o + i * 5 + 3, none⟩ = some (.bool f.cls) ∧ w.cell? ⟨g, o + i * 5 + 4, none⟩ = some (.slice B f.data.length d) := by
  obtain ⟨g, o, e, hg, hc⟩ := h.2 (by omega)
  obtain ⟨h1, B, d, h2, h3⟩ := hc i _ (List.getElem?_eq_getElem hi)
  exact ⟨g, o, _, B, d, e, hg, List.getElem?_eq_getElem hi, h1, h2, h3 0 _ rfl, h3 1 _ rfl, h3 2 _ rfl, h3 3 _ rfl, h3 4 _ rfl⟩
theorem infoFile : (Try.prog.info? 37).map (fun i => (i.zero, i.size, i.bytes)) = some (some (.agg #[.string ⟨#[]⟩, .int .u16 0, .int .u16 0, .bool false, .slice none 0 0]), 5, 48) := by kernel_rfl
/-- The cells of files whose bytes lie somewhere. -/
def FV (w : World) (vals : List Value) : List Fi → Prop
  | [] => vals = []
  | f :: xs => f.ok ∧ ∃ B d rest, vals = fc f B d ++ rest ∧ Dat w B d f.data ∧ FV w rest xs
theorem FV.length {w : World} : ∀ {xs : List Fi} {vals : List Value}, FV w vals xs → vals.length = xs.length * 5
  | [], _, h => by unfold FV at h; rw [h]; rfl
  | f :: xs, vals, h => by
    obtain ⟨_, B, d, rest, rfl, _, h2⟩ := h
    have := h2.length
    simp only [List.length_append, List.length_cons, fc, List.length_nil]
    omega
theorem FV.hop {w w' : World} {r : Option Nat} (k : w.grownBy w' r) (hr : ∀ g, r = some g → ∀ cur fr, w.heap[g]? ≠ some (.cells cur 5 fr)) : ∀ {xs : List Fi} {vals : List Value}, FV w vals xs → FV w' vals xs
  | [], _, h => h
  | f :: xs, vals, h => by
    obtain ⟨h0, B, d, rest, e, h1, h2⟩ := h
    exact ⟨h0, B, d, rest, e, h1.hop k hr, h2.hop k hr⟩
theorem FV.snoc {w : World} : ∀ {xs : List Fi} {vals : List Value}, FV w vals xs → ∀ {f : Fi} {B : Option Addr} {d : Nat}, f.ok → Dat w B d f.data → FV w (vals ++ fc f B d) (xs ++ [f])
  | [], vals, h, f, B, d, h0, h1 => by
    unfold FV at h
    subst h
    exact ⟨h0, B, d, [], by simp, h1, rfl⟩
  | x :: xs, vals, h, f, B, d, h0, h1 => by
    obtain ⟨k0, B', d', rest, rfl, k1, k2⟩ := h
    exact ⟨k0, B', d', rest ++ fc f B d, by simp, k1, k2.snoc h0 h1⟩
theorem FV.at_ {w : World} : ∀ {xs : List Fi} {vals : List Value}, FV w vals xs → ∀ (j : Nat) f, xs[j]? = some f → f.ok ∧ ∃ B d, Dat w B d f.data ∧ ∀ (i : Nat) u, (fc f B d)[i]? = some u → vals[j * 5 + i]? = some u
  | [], _, _, j, f, h => by simp at h
  | x :: xs, vals, h, 0, f, hf => by
    simp at hf
    subst hf
    obtain ⟨k0, B, d, rest, rfl, k1, _⟩ := h
    refine ⟨k0, B, d, k1, fun i u hu => ?_⟩
    rw [Nat.zero_mul, Nat.zero_add, List.getElem?_append_left (List.getElem?_eq_some_iff.1 hu).1]
    exact hu
  | x :: xs, vals, h, j + 1, f, hf => by
    obtain ⟨k0, B, d, rest, rfl, k1, k2⟩ := h
    obtain ⟨h0, B', d', h1, h2⟩ := k2.at_ j f (by simpa using hf)
    refine ⟨h0, B', d', h1, fun i u hu => ?_⟩
    have e : (fc x B d).length = 5 := rfl
    rw [List.getElem?_append_right (by rw [e]; omega), e, show (j + 1) * 5 + i - 5 = j * 5 + i by omega]
    exact h2 i u hu
/-- A row of files of the call's own. -/
def FRow (w : World) (base : Nat) (v : Value) (xs : List Fi) : Prop := ∃ vals, w.ownsRow base 37 5 v xs.length vals ∧ FV w vals xs
theorem FRow.nil (w : World) (base : Nat) : FRow w base (.slice none 0 0) [] := ⟨[], World.ownsRow_nil w base 37 5, rfl⟩
theorem FRow.cells {w : World} {base : Nat} {v : Value} {xs : List Fi} (h : FRow w base v xs) {g : Nat} (hg : v.ownBlock = some g) : base ≤ g ∧ ∃ cur, w.heap[g]? = some (.cells cur 37 (0, 0)) := by
  obtain ⟨vals, h, _⟩ := h
  rcases h.2 with ⟨h, _⟩ | ⟨g', cap, cur, h, h1, hg', _⟩
  · rw [h] at hg; simp [Value.ownBlock] at hg
  · rw [h] at hg
    simp [Value.ownBlock] at hg
    subst hg
    exact ⟨h1, cur, hg'⟩
theorem FRow.hop {w w' : World} {base : Nat} {v : Value} {xs : List Fi} {r : Option Nat} (h : FRow w base v xs) (k : w.grownBy w' r) (hr : ∀ g, r = some g → ∀ cur fr t, w.heap[g]? = some (.cells cur t fr) → t ≠ 5 ∧ t ≠ 37) : FRow w' base v xs := by
  have hc := fun g hg => FRow.cells h (g := g) hg
  obtain ⟨vals, h1, h2⟩ := h
  refine ⟨vals, h1.kept k ?_, h2.hop k fun g e cur fr hh => (hr g e cur fr _ hh).1 rfl⟩
  cases e : v.ownBlock with
  | none => exact .inl rfl
  | some g =>
    refine .inr fun e2 => ?_
    obtain ⟨_, cur, hh⟩ := hc g e
    exact (hr g e2.symm cur _ _ hh).2 rfl
theorem FRow.grow {w w' : World} {base : Nat} {v : Value} {xs : List Fi} (h : FRow w base v xs) (k : Below w.heap.size w w') : FRow w' base v xs := h.hop (r := none) (grownBy_below k none) (fun g e => by cases e)
theorem FRow.reads {w : World} {base : Nat} {v : Value} {xs : List Fi} (h : FRow w base v xs) : ∃ A c, v = .slice A xs.length c ∧ FilesAt w A c xs := by
  obtain ⟨vals, h1, h2⟩ := h
  have hc := fun (g : Nat) (hg : v.ownBlock = some g) => World.ownsRow.cells h1 hg
  rcases h1.2 with ⟨rfl, hn⟩ | ⟨g, cap, cur, rfl, k1, k2, k3, _⟩
  · obtain rfl : xs = [] := List.eq_nil_of_length_eq_zero hn
    exact ⟨none, 0, rfl, FilesAt.nil _ _ _⟩
  · refine ⟨_, cap, rfl, k3, fun _ => ⟨g, 0, rfl, (Array.getElem?_eq_some_iff.1 k2).1, fun j f hf => ?_⟩⟩
    obtain ⟨h0, B, d, h3, h4⟩ := h2.at_ j f hf
    refine ⟨h0, B, d, h3.1, fun i u hu => ?_⟩
    have := hc g rfl _ _ (h4 i u hu)
    rw [addr_add] at this
    rwa [Nat.zero_add] at this ⊢
/-- 'append(out, f)'. -/
theorem wpList_appF {w : World} {ops : Array Oper} {rest : List Oper} {o : Oper} {a : Act} {Q : Exit → Act → World → Prop} (hgd : o.guard = none) (s x : Operand)
    (ho : o.op = .call { callee := .builtin .append, args := #[s, x], argTypes := #[22, 22] })
    (base : Nat) (v : Value) (xs : List Fi) (hv : a.eval s = v) (hown : FRow w base v xs) (G : Nat) (f : Fi) (B : Option Addr) (d : Nat) (t : TypeId) (fr : Nat × Nat) (hX : a.eval x = .slice (some ⟨G, 0, none⟩) 1 1)
    (hb : w.heap[G]? = some (.cells (fc f B d).toArray t fr)) (h0 : f.ok) (hd : Dat w B d f.data) (hn : xs.length ≤ 1000000) (hbase : base ≤ w.heap.size)
    (h : ∀ v' w', FRow w' base v' (xs ++ [f]) → Hop w w' v.ownBlock v'.ownBlock → wpList Try.prog ops Q rest (a.put o.dst v') w') : wpList Try.prog ops Q (o :: rest) a w := by
  obtain ⟨i0, hi, hz0, hz1, hz2⟩ := info_parts infoFile
  have hcl := fun g hg => FRow.cells hown (g := g) hg
  obtain ⟨vals, k1, k2⟩ := hown
  refine wpList_append_row hgd s x 22 22 ho base 37 i0 _ 5 48 Try.underlying22 hi hz0 hz1 hz2 rfl v _ _ hv k1 _ 1 (fc f B d) hX (fun v' w' h1 h2 => h v' w' ⟨vals ++ fc f B d, by rw [List.length_append]; exact h1, FV.hop h2.1 (fun g e cur fr hh => ?_) (k2.snoc h0 hd)⟩ h2) ?_ ?_ ?_ hbase
  · obtain ⟨_, cur', hc⟩ := hcl g e
    rw [hc] at hh
    simp at hh
  · exact src_block Try.underlying22 5 1 1 _ (fc f B d).toArray _ _ hb rfl (by simp [fc, Value.oneCell'])
  · unfold maxLen; omega
  · omega
end Go.Proofs.Ytdgoffpfcgipkaa
