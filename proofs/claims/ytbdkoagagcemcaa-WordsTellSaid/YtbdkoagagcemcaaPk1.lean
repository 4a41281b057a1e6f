/- Joined texts: Grow, Str, Append, Strs, Texts, Bytes, PpShelf, WdA, Ints. -/
import Derived.WalkKit
import Derived.WalkSpells
import Derived.WalkLawsBesides
import Derived.BigQuiet
import Derived.Laws.IdiomStrings
import Derived.Deep.AppendSrc
import Derived.Deep.AppendLies
import Derived.Deep.Upon
import Derived.Lib.Join
import Derived.Test.YtbdkoagagcemcaaProg
import Derived.Lib.Hide
import Derived.Laws.OwnMore
import Derived.Laws.AppendOwn
import Derived.Shelf.Small.Bits
import Derived.Shelf.Small.Wraps
import Derived.Shelf.Strconv.Itoa0
import Derived.Shelf.Sort.Plain
import Derived.Ground.Names2Prog
import Derived.Shelf.Slices.Clone
import Derived.Shelf.Slices.CompactS
import Derived.Shelf.Slices.SearchI
import Derived.Shelf.Slices.Cells
import Derived.Shelf.Slices.In.SortNone
import Derived.Ground.SlgfProg
import Derived.Shelf.SlicesE.IndexFunc
import Derived.Ground.SlsfProg
import Derived.Shelf.SlLaysZI
import Derived.Shelf.SlLaysDf
import Derived.Shelf.SlLaysF
import Derived.Shelf.SlLaysH
import Derived.Ground.GgzProg
import Derived.Ground.SlmdProg
import Derived.Sort.OwnSorted
import Derived.Lib.OwnBridge
import Derived.Lib.SliceRun
/- Regions that draw their order and whose calls may make memory: one walk in the order of the text, at the class of worlds in which all that stood at the region's head is as it was. No program. -/
namespace Go.Proofs.Ytbdkoagagcemcaa
open Go.RowKit

/-- A world in which all blocks of 'w' are as they were. -/
def Gr (w : World) : Type := { w' : World // Below w.heap.size w w' }
instance Gr.some (w : World) : Nonempty (Gr w) := ⟨⟨w, Below.refl _ _⟩⟩
@[go_sem] theorem Gr.cell {w : World} (g : Gr w) (b o : Nat) (h : b < w.heap.size) : g.1.cell? ⟨b, o, none⟩ = w.cell? ⟨b, o, none⟩ := g.2.cell (p := ⟨b, o, none⟩) h
@[go_sem] theorem Gr.frozen {w : World} (g : Gr w) (b o : Nat) (h : b < w.heap.size) : g.1.frozen? ⟨b, o, none⟩ = w.frozen? ⟨b, o, none⟩ := g.2.frozen (p := ⟨b, o, none⟩) h
theorem Gr.size {w : World} (g : Gr w) : w.heap.size ≤ g.1.heap.size := g.2.size
theorem Gr.call {P : Program} {f : FuncId} {args : Array Value} {w : World} {g : Gr w} {v : Value}
    (h : Calls P f args g.1 fun e w' => e = .returned v ∧ Below g.1.heap.size g.1 w') :
    Calls P f args g.1 fun e w' => e = .returned v ∧ ∃ k : Gr w, w' = k.1 :=
  h.mono fun _ w' ⟨he, hb⟩ => ⟨he, ⟨w', g.2.trans (hb.mono g.size)⟩, rfl⟩
theorem Gr.same {P : Program} {f : FuncId} {args : Array Value} {w : World} {g : Gr w} {v : Value}
    (h : Calls P f args g.1 fun e w' => e = .returned v ∧ g.1 = w') :
    Calls P f args g.1 fun e w' => e = .returned v ∧ ∃ k : Gr w, w' = k.1 :=
  h.mono fun _ _ ⟨he, hb⟩ => ⟨he, g, hb.symm⟩
theorem Gr.drew {P : Program} {f : FuncId} {args : Array Value} {w : World} {g : Gr w} {v : Value}
    (h : Calls P f args g.1 fun e w' => e = .returned v ∧ ∃ n, w' = g.1.drewN n) :
    Calls P f args g.1 fun e w' => e = .returned v ∧ ∃ k : Gr w, w' = k.1 :=
  h.mono fun _ w' ⟨he, n, hb⟩ => ⟨he, ⟨w', by rw [hb]; exact below_drewN g.2 n⟩, rfl⟩
theorem wp_region_grow {P : Program} {id : Nat} {Q : Exit → Act → World → Prop} {a : Act} {w : World} {l : List Oper} (hm : P.follows .mixedOrders = true) (hB : Region.lexB .any l.toArray = true)
    (h : wpQuiet P l.toArray (fun w' => ∃ g : Gr w, w' = g.1) (fun a' => ∀ g : Gr w, Q .normal a' g.1) l a) : (Code.region id l.toArray true).wp P Q a w := by
  refine wp_region_quiet (C := fun w' => ∃ g : Gr w, w' = g.1) hm hB ⟨⟨w.drew, (Below.refl _ _).drew⟩, rfl⟩ ?_
  have e : (fun a' => ∀ w', (∃ g : Gr w, w' = g.1) → Q .normal a' w') = fun a' => ∀ g : Gr w, Q .normal a' g.1 := by
    funext a'; apply propext; exact ⟨fun H g => H _ ⟨g, rfl⟩, fun H w' ⟨g, hg⟩ => hg ▸ H g⟩
  rw [e]; simpa using h

theorem Below.after {B : Nat} {a w w' : World} (h : Below B a w) (k : Below w.heap.size w w') (hB : B ≤ w.heap.size) : Below B a w' := h.trans (k.mono hB)
theorem Below.after' {B : Nat} {a w w' : World} (h : Below B a w) (k : Below w.heap.size w w') (hB : B ≤ a.heap.size) : Below B a w' := h.trans (k.mono (Nat.le_trans hB h.size))
theorem Below.alloc' {B : Nat} {a w : World} (h : Below B a w) (hB : B ≤ a.heap.size) (o : Obj) : Below B a (w.alloc o) := h.alloc (Nat.le_trans hB h.size) o
/-- A store into the block that was laid behind 'w'. -/
theorem Below.setNew {B : Nat} {a w w1 : World} (h : Below B a w) (hB : B ≤ a.heap.size) (h1 : Below B a w1) (o : Nat) (u : Value) : Below B a (w1.setCell ⟨w.heap.size, o, none⟩ u) := h1.setCell (p := ⟨w.heap.size, o, none⟩) (Nat.le_trans hB h.size) u
theorem ret_int {k : IntKind} {a b : Int} (h : a = b) : Ending.returned (.int k a) = .returned (.int k b) := by rw [h]
theorem ret_bool {a b : Bool} (h : a = b) : Ending.returned (.bool a) = .returned (.bool b) := by rw [h]
theorem bcell {W w1 : World} (hb : Below W.heap.size W w1) : (∀ b o, b < W.heap.size → w1.cell? ⟨b, o, none⟩ = W.cell? ⟨b, o, none⟩) ∧ (∀ b o, b < W.heap.size → w1.frozen? ⟨b, o, none⟩ = W.frozen? ⟨b, o, none⟩) :=
  ⟨fun b o h => hb.cell (p := ⟨b, o, none⟩) h, fun b o h => hb.frozen (p := ⟨b, o, none⟩) h⟩
theorem calls_below {P : Program} {f : FuncId} {args : Array Value} {w : World} {v : Value} (h : Calls P f args w fun e w' => e = .returned v ∧ w = w') :
    Calls P f args w fun e w' => e = .returned v ∧ Below w.heap.size w w' := h.mono fun _ _ ⟨he, hb⟩ => ⟨he, hb ▸ Below.refl _ _⟩
end Go.Proofs.Ytbdkoagagcemcaa

/- Strings as lists of bytes; conversions. No program. -/
namespace Go.Proofs.Ytbdkoagagcemcaa
open Go.RowKit

/-- The string of these bytes. -/
def bs (l : List UInt8) : ByteArray := ⟨l.toArray⟩
theorem bs_append (x y : List UInt8) : bs x ++ bs y = bs (x ++ y) := ByteArray.mk_append_mk x y
theorem bs_toList (l : List UInt8) : (bs l).data.toList = l := rfl
theorem bs_list (l : List UInt8) : (bs l).toList = l := by rw [ByteArray.toList_eq]; rfl
theorem bs_beq (x y : List UInt8) : ((bs x).toList == (bs y).toList) = decide (x = y) := by rw [bs_list, bs_list]; by_cases h : x = y <;> simp [h]
theorem bs_of (s : ByteArray) : bs s.data.toList = s := rfl
theorem bs_size (l : List UInt8) : (bs l).size = l.length := by unfold bs ByteArray.size; simp
theorem size_toList (s : ByteArray) : s.data.toList.length = s.size := Array.length_toList
theorem bs_inj {x y : List UInt8} (h : bs x = bs y) : x = y := congrArg (fun s : ByteArray => s.data.toList) h
theorem bs_eq_iff {x y : List UInt8} : bs x = bs y ↔ x = y := ⟨bs_inj, fun h => by rw [h]⟩
theorem toNat_ofNat {n : Nat} (h : n < 256) : (UInt8.ofNat n).toNat = n := by simp; omega
theorem bs_get (l : List UInt8) (i : Nat) (h : i < (bs l).size) : (bs l)[i] = l[i]'(by rwa [bs_size] at h) := by rfl
theorem bs_extract (l : List UInt8) (a b : Nat) : (bs l).extract a b = bs ((l.drop a).take (b - a)) := by
  have h : ((bs l).extract a b).data = (bs l).data.extract a b := ByteArray.data_extract ..
  have e : (bs l).extract a b = ⟨(bs l).data.extract a b⟩ := by rw [← h]
  rw [e]
  unfold bs
  congr 1
  apply Array.ext'
  simp [List.take_drop]

/-- 'string(b)' of a row of the call's own: bytes. -/
theorem run_string_of_row {P : Program} (w : World) (src dst e : TypeId) (base : Nat) (v : Value) (l : List UInt8) (hs : P.underlying src = some (.slice e)) (he : P.underlying e = some (.int .u8)) (hd : P.underlying dst = some .string)
    (h : w.ownsRow base e 1 v l.length (l.map fun b => Value.int .u8 (b.toNat : Int))) : (convert src dst v).run P w = .ok (.string (bs l)) w := by
  have hc := fun (g : Nat) (hg : v.ownBlock = some g) => h.cells hg
  rcases h.2 with ⟨rfl, hn⟩ | ⟨g, cap, cur, rfl, _, _, _⟩
  · have : l = [] := List.eq_nil_of_length_eq_zero hn
    subst this
    exact run_convert_bytes_nil w src e hs he 0 0 dst hd
  · refine run_convert_bytes_back w src dst e _ cap l hs he hd fun j hj => ?_
    exact hc g rfl j _ (by simp [hj])
end Go.Proofs.Ytbdkoagagcemcaa

/- append onto a row of the call's own, out of whatever source: the row's block, and what else has turned. No program. -/
namespace Go.Proofs.Ytbdkoagagcemcaa
open Go.RowKit

theorem list_set_take (l vs : List Value) (v : Value) (o : Nat) (h : o + (vs.length + 1) ≤ l.length) :
    (l.set o v).take (o + 1) ++ vs ++ (l.set o v).drop (o + 1 + vs.length) = l.take o ++ (v :: vs) ++ l.drop (o + (vs.length + 1)) := by
  have e1 : (l.set o v).take (o + 1) = l.take o ++ [v] := by
    rw [List.take_succ_eq_append_getElem (by simp; omega)]
    rw [List.take_set, List.set_eq_of_length_le (by simp [Nat.min_le_left])]
    simp
  have e2 : (l.set o v).drop (o + 1 + vs.length) = l.drop (o + (vs.length + 1)) := by
    rw [List.drop_set_of_lt (by omega)]
    congr 1; omega
  rw [e1, e2]
  simp

theorem setCells_eq_setRow (g : Nat) (t : TypeId) (fr : Nat × Nat) : ∀ (vs : List Value) (o : Nat) (w : World) (cur : Array Value), w.heap[g]? = some (.cells cur t fr) → o + vs.length ≤ cur.size →
    w.setCells g o vs = w.setRow g (cur.toList.take o ++ vs ++ cur.toList.drop (o + vs.length)).toArray
  | [], o, w, cur, hg, _ => by
    have e : (cur.toList.take o ++ ([] : List Value) ++ cur.toList.drop (o + ([] : List Value).length)).toArray = cur := by simp
    rw [e, setRow_self w g cur t fr hg]
    rfl
  | v :: vs, o, w, cur, hg, hle => by
    have h1 := setCell_eq_setRow w g o cur t fr v hg
    have hg' : (w.setRow g (cur.setIfInBounds o v)).heap[g]? = some (.cells (cur.setIfInBounds o v) t fr) := setRow_heap w g cur _ t fr hg
    show (w.setCell ⟨g, o, none⟩ v).setCells g (o + 1) vs = _
    rw [h1, setCells_eq_setRow g t fr vs (o + 1) _ _ hg' (by simp at hle ⊢; omega), setRow_setRow]
    congr 2
    have := list_set_take cur.toList vs v o (by simpa using hle)
    simpa using this

/-- Behind one step: only the own row 'o' may have turned; the row is 'o'' now: the same, or a new one. -/
def Hop (w w' : World) (o o' : Option Nat) : Prop := w.grownBy w' o ∧ (o' = o ∨ ∃ g, w.heap.size ≤ g ∧ o' = some g)
theorem Hop.refl (w : World) (o : Option Nat) : Hop w w o o := ⟨World.grownBy.refl w o, .inl rfl⟩
theorem grownBy_trans {w w1 w2 : World} {o o1 : Option Nat} (h : w.grownBy w1 o) (k : w1.grownBy w2 o1) (ho : o1 = o ∨ ∀ g, o1 = some g → w.heap.size ≤ g) : w.grownBy w2 o :=
  ⟨k.os.trans h.os, k.tape.trans h.tape, k.output.trans h.output, Nat.le_trans h.size k.size, fun i hi hne => by
    rw [k.block i (Nat.lt_of_lt_of_le hi h.size) (fun e => by
      rcases ho with ho | ho
      · exact hne (e.trans ho)
      · have := ho i e.symm; omega), h.block i hi hne]⟩
theorem Hop.trans {w w1 w2 : World} {o o1 o2 : Option Nat} (h : Hop w w1 o o1) (k : Hop w1 w2 o1 o2) : Hop w w2 o o2 := by
  refine ⟨grownBy_trans h.1 k.1 ?_, ?_⟩
  · rcases h.2 with h2 | ⟨g, hg, h2⟩
    · exact .inl h2
    · exact .inr fun k hk => by rw [h2] at hk; cases hk; exact hg
  · rcases k.2 with k2 | ⟨g, hg, k2⟩
    · rcases h.2 with h2 | ⟨g', hg', h2⟩
      · exact .inl (k2.trans h2)
      · exact .inr ⟨g', hg', k2.trans h2⟩
    · exact .inr ⟨g, Nat.le_trans h.1.size hg, k2⟩
theorem Hop.grow {w w1 w2 : World} {o o1 : Option Nat} (h : Hop w w1 o o1) (k : Below w1.heap.size w1 w2) : Hop w w2 o o1 :=
  h.trans ⟨⟨k.os, k.tape, k.output, k.size, fun i hi _ => k.block i hi⟩, .inl rfl⟩
theorem grownBy_below {w w1 : World} (k : Below w.heap.size w w1) (o : Option Nat) : w.grownBy w1 o := ⟨k.os, k.tape, k.output, k.size, fun i hi _ => k.block i hi⟩
theorem own_below {w w1 : World} {base : Nat} {e : TypeId} {size : Nat} {v : Value} {n : Nat} {xs : List Value} (h : w.ownsRow base e size v n xs) (k : Below w.heap.size w w1) : w1.ownsRow base e size v n xs :=
  h.kept (grownBy_below k none) (by cases v.ownBlock <;> simp)
/-- Below a base that the own row lies behind, nothing has turned. -/
theorem Hop.below {w w' : World} {o o' : Option Nat} {B : Nat} (h : Hop w w' o o') (hB : B ≤ w.heap.size) (ho : ∀ k, o = some k → B ≤ k) : Below B w w' :=
  (Below.refl B w).grown h.1 hB ho
/-- The own row is not a block of another type. -/
theorem own_ne {w : World} {base : Nat} {e : TypeId} {size : Nat} {v : Value} {n : Nat} {xs : List Value} (h : w.ownsRow base e size v n xs) {L : Nat} {C : Array Value} {t : TypeId} {fr : Nat × Nat}
    (hL : w.heap[L]? = some (.cells C t fr)) (ht : t ≠ e) : some L ≠ v.ownBlock := by
  intro e1
  rcases h.2 with ⟨rfl, _⟩ | ⟨g, cap, cur, rfl, _, hg, _⟩
  · simp [Value.ownBlock] at e1
  · simp [Value.ownBlock] at e1
    subst e1
    rw [hL] at hg
    simp at hg
    exact ht hg.2.1

section
variable {P : Program}
theorem run_append_row (w : World) (t tx ty e : TypeId) (base : Nat) (i : TypeInfo) (z : Value) (size bytes : Nat) (ht : P.underlying t = some (.slice e)) (hi : P.info? e = some i) (hz : i.zero = some z)
    (hsize : i.size = size) (hby : i.bytes = bytes) (hzs : z.cells.size = size)
    (v : Value) (n : Nat) (xs : List Value) (hown : w.ownsRow base e size v n xs) (x : Value) (m : Nat) (news : List Value) (hs : Src P size tx x m news w)
    (h63 : n + m ≤ maxLen) (hbytes : (n + m) * bytes ≤ 140737488355328) (hbase : base ≤ w.heap.size) :
    ∃ v' w', (Builtin.append_ #[t, tx] ty #[v, x]).run P w = .ok v' w' ∧ w'.ownsRow base e size v' (n + m) (xs ++ news) ∧ Hop w w' v.ownBlock v'.ownBlock := by
  subst hsize hby
  have hmax : ((n + m : Nat) : Int) ≤ 9223372036854775807 := by unfold maxLen at h63; omega
  have hlen : (xs ++ news).length = (n + m) * i.size := by rw [List.length_append, hown.1, hs.newsLen, Nat.add_mul]
  -- a new row
  have new : ∀ (old : Nat) (o : Option Nat), old < n + m →
      (w.drew.alloc (.cells ((xs ++ news).toArray ++ Builtin.zeroCells z.cells (grownCap w (n + m) old e - (n + m))) e)).ownsRow base e i.size (.slice (some ⟨w.heap.size, 0, none⟩) (n + m) (grownCap w (n + m) old e)) (n + m) (xs ++ news) ∧
      Hop w (w.drew.alloc (.cells ((xs ++ news).toArray ++ Builtin.zeroCells z.cells (grownCap w (n + m) old e - (n + m))) e)) o (some w.heap.size) := by
    intro old o ho
    refine ⟨⟨hlen, .inr ⟨w.heap.size, _, _, rfl, hbase, heap_alloc_new w.drew _, grownCap_ge w (n + m) old e, grownCap_le_maxLen w (n + m) old e h63, ?_, ?_⟩⟩, ⟨rfl, rfl, rfl, by simp, fun k hk _ => heap_alloc_old w.drew _ hk⟩, .inr ⟨_, Nat.le_refl _, rfl⟩⟩
    · have := grownCap_ge w (n + m) old e
      simp only [Array.size_append, List.size_toArray, size_zeroCells, hzs, hlen, ← Nat.add_mul]
      congr 1
      omega
    · simp only [Array.toList_append]
      rw [← hlen]
      exact List.take_left
  have hfit : ∀ old, old < n + m → Builtin.nextslicecap (n + m) old * i.bytes ≤ 281474976710656 := fun old ho => growslice_fits ho hbytes
  rcases hown.2 with ⟨rfl, rfl⟩ | ⟨g, cap, cur, rfl, hbg, hg, hnc, hcm, hcs, htake⟩
  · have hx : xs = [] := List.eq_nil_of_length_eq_zero (by simpa using hown.1)
    subst hx
    by_cases hm : m = 0
    · subst hm
      have hn : news = [] := List.eq_nil_of_length_eq_zero (by simpa using hs.newsLen)
      subst hn
      exact ⟨_, _, run_append_nothing w t tx ty e i ht hi none 0 0 (Nat.le_refl _) x hs, World.ownsRow_nil w base e i.size, Hop.refl _ _⟩
    · have hr := run_append_grow_src (P := P) w t tx ty e i z ht hi hz none 0 0 [] (run_firstCells_none w.drew i.size 0 0 0) x m news hs (by omega) hmax (by have := hfit 0 (by omega); simpa using this)
      obtain ⟨h1, h2⟩ := new 0 (Value.ownBlock (.slice none 0 0)) (by omega)
      exact ⟨_, _, hr, h1, h2⟩
  · by_cases hroom : n + m ≤ cap
    · have hspan : n * i.size + news.length ≤ cur.size := by
        rw [hs.newsLen, hcs, ← Nat.add_mul]; exact Nat.mul_le_mul_right _ hroom
      have hcell : ∀ j, w.cell? ⟨g, j, none⟩ = cur[j]? := fun j => cell_of_row w g j cur e (0, 0) hg
      have hr := run_append_room_src (P := P) w t tx ty e i ht hi g 0 n cap x m news hs hroom (fun j hj => by rw [hcell]; simp; omega) (fun j hj => by simp [World.frozen?, hg])
      rw [Nat.zero_add, setCells_eq_setRow g e (0, 0) news (n * i.size) w cur hg hspan] at hr
      refine ⟨_, _, hr, ⟨hlen, .inr ⟨g, cap, _, rfl, hbg, setRow_heap w g cur _ e (0, 0) hg, hroom, hcm, ?_, ?_⟩⟩, ⟨rfl, rfl, rfl, by simp, fun k _ hne => setRow_other w g k _ (fun hh => hne (by rw [hh]; rfl))⟩, .inl rfl⟩
      · simp only [List.size_toArray, List.length_append, List.length_take, List.length_drop, Array.length_toList]
        rw [Nat.min_eq_left (by omega)]
        rw [← hcs]; omega
      · rw [htake]
        show (xs ++ news ++ _).take _ = _
        rw [← hlen]
        exact List.take_left
    · have hold : (Builtin.firstCells i.size n (.slice (some ⟨g, 0, none⟩) n cap)).run P w.drew = .ok xs.toArray w.drew := by
        refine run_firstCells_some (P := P) w.drew i.size n ⟨g, 0, none⟩ n cap xs hown.1 fun j u hj => ?_
        have := hown.cells (g := g) rfl j u hj
        simpa using this
      have hr := run_append_grow_src (P := P) w t tx ty e i z ht hi hz (some ⟨g, 0, none⟩) n cap xs hold x m news hs (by omega) hmax (hfit cap (by omega))
      obtain ⟨h1, h2⟩ := new cap (Value.ownBlock (.slice (some ⟨g, 0, none⟩) n cap)) (by omega)
      exact ⟨_, _, hr, h1, h2⟩

/-- At the list of a plain region's operations. -/
theorem wpList_append_row {w : World} {ops : Array Oper} {rest : List Oper} {o : Oper} {a : Act} {Q : Exit → Act → World → Prop} (hgd : o.guard = none) (s x : Operand) (t tx : TypeId)
    (ho : o.op = .call { callee := .builtin .append, args := #[s, x], argTypes := #[t, tx] })
    (base : Nat) (e : TypeId) (i : TypeInfo) (z : Value) (size bytes : Nat) (ht : P.underlying t = some (.slice e)) (hi : P.info? e = some i) (hz : i.zero = some z)
    (hsize : i.size = size) (hby : i.bytes = bytes) (hzs : z.cells.size = size)
    (v : Value) (n : Nat) (xs : List Value) (hv : a.eval s = v) (hown : w.ownsRow base e size v n xs)
    (X : Value) (m : Nat) (news : List Value) (hX : a.eval x = X)
    (h : ∀ v' w', w'.ownsRow base e size v' (n + m) (xs ++ news) → Hop w w' v.ownBlock v'.ownBlock → wpList P ops Q rest (a.put o.dst v') w')
    (hs : Src P size tx X m news w) (h63 : n + m ≤ maxLen) (hbytes : (n + m) * bytes ≤ 140737488355328) (hbase : base ≤ w.heap.size) : wpList P ops Q (o :: rest) a w :=
  wpList_plain hgd fun _ hK => by
    obtain ⟨v', w', hr, h2, h3⟩ := run_append_row w t tx o.type e base i z size bytes ht hi hz hsize hby hzs v n xs hown X m news hs h63 hbytes hbase
    unfold Oper.wp execOp
    simp only [ho, resolve, invoke, builtin, Sem.run_bind, Sem.run_pure, Result.andThen_ok, List.map_toArray, List.map_cons, List.map_nil, hv, hX, hr]
    exact hK _ _ (h v' w' h2 h3)
/-- At a step of a region that draws its order. -/
theorem step_append_row {w : World} {ops : Array Oper} {o : Oper} {a : Act} {K : Act → World → Prop} {Q : Exit → Act → World → Prop} {E : Prop} (hgd : o.guard = none) (s x : Operand) (t tx : TypeId)
    (ho : o.op = .call { callee := .builtin .append, args := #[s, x], argTypes := #[t, tx] })
    (base : Nat) (e : TypeId) (i : TypeInfo) (z : Value) (size bytes : Nat) (ht : P.underlying t = some (.slice e)) (hi : P.info? e = some i) (hz : i.zero = some z)
    (hsize : i.size = size) (hby : i.bytes = bytes) (hzs : z.cells.size = size)
    (v : Value) (n : Nat) (xs : List Value) (hv : a.eval s = v) (hown : w.ownsRow base e size v n xs)
    (X : Value) (m : Nat) (news : List Value) (hX : a.eval x = X)
    (h : ∀ v' w', w'.ownsRow base e size v' (n + m) (xs ++ news) → Hop w w' v.ownBlock v'.ownBlock → K (a.put o.dst v') w')
    (hs : Src P size tx X m news w) (h63 : n + m ≤ maxLen) (hbytes : (n + m) * bytes ≤ 140737488355328) (hbase : base ≤ w.heap.size) :
    if Region.wanted o (yielded ops a.tmps) = true then Oper.wp P o a w K Q else E := by
  have hw : Region.wanted o (yielded ops a.tmps) = true := by simp [Region.wanted, hgd]
  rw [if_pos hw]
  obtain ⟨v', w', hr, h2, h3⟩ := run_append_row w t tx o.type e base i z size bytes ht hi hz hsize hby hzs v n xs hown X m news hs h63 hbytes hbase
  unfold Oper.wp execOp
  simp only [ho, resolve, invoke, builtin, Sem.run_bind, Sem.run_pure, Result.andThen_ok, List.map_toArray, List.map_cons, List.map_nil, hv, hX, hr]
  exact h v' w' h2 h3
end

/-- A row of bytes of the call's own. -/
def cb (l : List UInt8) : List Value := l.map fun b => Value.int .u8 (b.toNat : Int)
theorem cb_length (l : List UInt8) : (cb l).length = l.length := List.length_map ..
theorem cb_append (x y : List UInt8) : cb (x ++ y) = cb x ++ cb y := List.map_append ..
def BRow (w : World) (base : Nat) (e : TypeId) (v : Value) (l : List UInt8) : Prop := w.ownsRow base e 1 v l.length (cb l)
theorem BRow.grow {w w1 : World} {base : Nat} {e : TypeId} {v : Value} {l : List UInt8} (h : BRow w base e v l) (k : Below w.heap.size w w1) : BRow w1 base e v l := own_below h k
theorem BRow.app {w : World} {base : Nat} {e : TypeId} {v : Value} {l m : List UInt8} {n : Nat} (h : w.ownsRow base e 1 v n (cb l ++ cb m)) (hn : n = l.length + m.length) : BRow w base e v (l ++ m) := by
  unfold BRow
  rw [List.length_append, cb_append, ← hn]
  exact h
theorem BRow.nil (w : World) (base : Nat) (e : TypeId) : BRow w base e (.slice none 0 0) [] := World.ownsRow_nil w base e 1
theorem byteCells_bs (l : List UInt8) : byteCells (bs l) = cb l := rfl
theorem BRow.string {P : Program} {w : World} {base : Nat} {v : Value} {l : List UInt8} (src dst e : TypeId) (hs : P.underlying src = some (.slice e)) (he : P.underlying e = some (.int .u8)) (hd : P.underlying dst = some .string)
    (h : BRow w base e v l) : (convert src dst v).run P w = .ok (.string (bs l)) w := run_string_of_row w src dst e base v l hs he hd h
theorem src_string {P : Program} {w : World} {tx : TypeId} (hk : P.underlying tx = some .string) (l : List UInt8) : Src P 1 tx (.string (bs l)) l.length (cb l) w := by
  have := Src.ofString (P := P) w hk (bs l)
  rwa [bs_size] at this
/-- The new block of a literal. -/
theorem src_block {P : Program} {w : World} {tx e' : TypeId} (hk : P.underlying tx = some (.slice e')) (size n c : Nat) (B : Nat) (cs : Array Value) (t : TypeId) (fr : Nat × Nat) (hb : w.heap[B]? = some (.cells cs t fr))
    (hl : cs.size = n * size) (h1 : ∀ u ∈ cs.toList, u.oneCell' = true) : Src P size tx (.slice (some ⟨B, 0, none⟩) n c) n cs.toList w :=
  Src.ofSlice w hk _ n c cs.toList (by simpa using hl) (World.news_of_block hb) h1
end Go.Proofs.Ytbdkoagagcemcaa

/- Rows of strings, as lists of bytes. No program. -/
namespace Go.Proofs.Ytbdkoagagcemcaa
open Go.RowKit

/-- The cells of a list of texts. -/
def sc (xs : List (List UInt8)) : List Value := xs.map fun x => Value.string (bs x)
theorem sc_length (xs : List (List UInt8)) : (sc xs).length = xs.length := List.length_map ..
theorem sc_append (xs ys : List (List UInt8)) : sc (xs ++ ys) = sc xs ++ sc ys := List.map_append ..
theorem sc_get {xs : List (List UInt8)} {j : Nat} {x : List UInt8} (h : xs[j]? = some x) : (sc xs)[j]? = some (.string (bs x)) := by simp [sc, h]
def SRow (w : World) (base : Nat) (e : TypeId) (v : Value) (xs : List (List UInt8)) : Prop := w.ownsRow base e 1 v xs.length (sc xs)
theorem SRow.grow {w w1 : World} {base : Nat} {e : TypeId} {v : Value} {xs : List (List UInt8)} (h : SRow w base e v xs) (k : Below w.heap.size w w1) : SRow w1 base e v xs := own_below h k
theorem SRow.app {w : World} {base : Nat} {e : TypeId} {v : Value} {xs ys : List (List UInt8)} {n : Nat} (h : w.ownsRow base e 1 v n (sc xs ++ sc ys)) (hn : n = xs.length + ys.length) : SRow w base e v (xs ++ ys) := by
  unfold SRow
  rw [List.length_append, sc_append, ← hn]
  exact h
theorem SRow.nil (w : World) (base : Nat) (e : TypeId) : SRow w base e (.slice none 0 0) [] := World.ownsRow_nil w base e 1
/-- What a row of texts is: the nil row, or a block with these texts ahead. -/
theorem SRow.cases {w : World} {base : Nat} {e : TypeId} {v : Value} {xs : List (List UInt8)} (h : SRow w base e v xs) :
    (v = .slice none 0 0 ∧ xs = []) ∨ ∃ g cap, v = .slice (some ⟨g, 0, none⟩) xs.length cap ∧ base ≤ g ∧ g < w.heap.size ∧ xs.length ≤ cap ∧ ∀ (j : Nat) x, xs[j]? = some x → w.cell? ⟨g, j, none⟩ = some (.string (bs x)) := by
  have hc := fun (g : Nat) (hg : v.ownBlock = some g) => World.ownsRow.cells h hg
  rcases h.2 with ⟨rfl, hn⟩ | ⟨g, cap, cur, rfl, h1, h2, h3, _⟩
  · exact .inl ⟨rfl, List.eq_nil_of_length_eq_zero hn⟩
  · refine .inr ⟨g, cap, rfl, h1, (Array.getElem?_eq_some_iff.1 h2).1, h3, fun j x hx => ?_⟩
    have := hc g rfl j _ (sc_get hx)
    have e : Addr.add ⟨g, 0, none⟩ j = ⟨g, j, none⟩ := by unfold Addr.add; split <;> simp_all
    rwa [e] at this
end Go.Proofs.Ytbdkoagagcemcaa

/- Rows of texts: of the call's own, and read. -/
namespace Go.Proofs.Ytbdkoagagcemcaa
open Go.RowKit

theorem infoStr : (Try.prog.info? 9).map (fun i => (i.zero, i.size, i.bytes)) = some (some (.string ⟨#[]⟩), 1, 16) := by kernel_rfl
/-- A row of texts of the call's own. -/
def TRow (w : World) (base : Nat) (v : Value) (xs : List (List UInt8)) : Prop := SRow w base 9 v xs
theorem TRow.grow {w w1 : World} {base : Nat} {v : Value} {xs : List (List UInt8)} (h : TRow w base v xs) (k : Below w.heap.size w w1) : TRow w1 base v xs := SRow.grow h k
theorem TRow.nil (w : World) (base : Nat) : TRow w base (.slice none 0 0) [] := SRow.nil w base 9
theorem TRow.one (w : World) (base : Nat) (h : base ≤ w.heap.size) (x : List UInt8) : TRow (w.alloc (.cells #[.string (bs x)] 9)) base (.slice (some ⟨w.heap.size, 0, none⟩) 1 1) [x] := by
  have := World.ownsRow_lit (base := base) (e := 9) (size := 1) w #[.string (bs x)] 1 h (by unfold maxLen; omega) rfl
  exact this
theorem wpList_appS {w : World} {ops : Array Oper} {rest : List Oper} {o : Oper} {a : Act} {Q : Exit → Act → World → Prop} (hgd : o.guard = none) (s x : Operand)
    (ho : o.op = .call { callee := .builtin .append, args := #[s, x], argTypes := #[47, 47] })
    (base : Nat) (v : Value) (xs : List (List UInt8)) (hv : a.eval s = v) (hown : TRow w base v xs) (B : Nat) (n : List UInt8) (t : TypeId) (fr : Nat × Nat) (hX : a.eval x = .slice (some ⟨B, 0, none⟩) 1 1)
    (hb : w.heap[B]? = some (.cells #[.string (bs n)] t fr)) (hn : xs.length ≤ 1000000000000) (hbase : base ≤ w.heap.size)
    (h : ∀ v' w', TRow w' base v' (xs ++ [n]) → Hop w w' v.ownBlock v'.ownBlock → wpList Try.prog ops Q rest (a.put o.dst v') w') : wpList Try.prog ops Q (o :: rest) a w := by
  obtain ⟨i0, hi, hz0, hz1, hz2⟩ := info_parts infoStr
  refine wpList_append_row hgd s x 47 47 ho base 9 i0 (.string ⟨#[]⟩) 1 16 Try.underlying47 hi hz0 hz1 hz2 rfl v _ _ hv hown _ 1 [.string (bs n)] hX (fun v' w' h1 h2 => h v' w' (SRow.app (ys := [n]) h1 rfl) h2) ?_ ?_ ?_ hbase
  · exact src_block Try.underlying47 1 1 1 _ #[.string (bs n)] _ _ hb rfl (by simp [Value.oneCell'])
  · unfold maxLen; omega
  · omega
/-- A row of texts that is read. -/
def Txt (w : World) (A : Option Addr) (c : Nat) (xs : List (List UInt8)) : Prop :=
  xs.length ≤ c ∧ (0 < xs.length → ∃ g o, A = some ⟨g, o, none⟩ ∧ g < w.heap.size ∧ ∀ (j : Nat) x, xs[j]? = some x → w.cell? ⟨g, o + j, none⟩ = some (.string (bs x)))
theorem Txt.grow {w w' : World} {A : Option Addr} {c : Nat} {xs : List (List UInt8)} (h : Txt w A c xs) (k : Below w.heap.size w w') : Txt w' A c xs :=
  ⟨h.1, fun hp => by
    obtain ⟨g, o, e, hg, hc⟩ := h.2 hp
    exact ⟨g, o, e, Nat.lt_of_lt_of_le hg k.size, fun j x hx => (k.cell (p := ⟨g, _, none⟩) hg).trans (hc j x hx)⟩⟩
theorem Txt.nil (w : World) (A : Option Addr) (c : Nat) : Txt w A c [] := ⟨Nat.zero_le _, fun h => by simp at h⟩
theorem Txt.at_ {w : World} {A : Option Addr} {c : Nat} {xs : List (List UInt8)} (h : Txt w A c xs) {i : Nat} (hi : i < xs.length) : ∃ g o x, A = some ⟨g, o, none⟩ ∧ g < w.heap.size ∧ xs[i]? = some x ∧ w.cell? ⟨g, o + i, none⟩ = some (.string (bs x)) := by
  obtain ⟨g, o, e, hg, hc⟩ := h.2 (by omega)
  exact ⟨g, o, _, e, hg, List.getElem?_eq_getElem hi, hc i _ (List.getElem?_eq_getElem hi)⟩
theorem TRow.reads {w : World} {base : Nat} {v : Value} {xs : List (List UInt8)} (h : TRow w base v xs) : ∃ A c, v = .slice A xs.length c ∧ Txt w A c xs := by
  rcases SRow.cases h with ⟨rfl, rfl⟩ | ⟨g, cap, rfl, _, hg, hc, hx⟩
  · exact ⟨none, 0, rfl, Txt.nil _ _ _⟩
  · exact ⟨_, cap, rfl, hc, fun _ => ⟨g, 0, rfl, hg, fun j x hj => by rw [Nat.zero_add]; exact hx j x hj⟩⟩
theorem TRow.kept {w w1 : World} {base : Nat} {v : Value} {xs : List (List UInt8)} {row : Option Nat} (h : TRow w base v xs) (g : w.grownBy w1 row) (hne : ∀ k, v.ownBlock = some k → row ≠ some k) : TRow w1 base v xs :=
  World.ownsRow.kept h g (by
    cases e : v.ownBlock with
    | none => exact .inl rfl
    | some k => exact .inr (fun e2 => hne k e e2.symm))
theorem TRow.cells {w : World} {base : Nat} {v : Value} {xs : List (List UInt8)} (h : TRow w base v xs) {g : Nat} (hg : v.ownBlock = some g) : base ≤ g ∧ ∃ cur, w.heap[g]? = some (.cells cur 9 (0, 0)) := by
  rcases h.2 with ⟨h, _⟩ | ⟨g', cap, cur, h, h1, hg', _⟩
  · rw [h] at hg; simp [Value.ownBlock] at hg
  · rw [h] at hg
    simp [Value.ownBlock] at hg
    subst hg
    exact ⟨h1, cur, hg'⟩
end Go.Proofs.Ytbdkoagagcemcaa

/- Rows of bytes that are read. -/
namespace Go.Proofs.Ytbdkoagagcemcaa
open Go.RowKit

theorem addr_addB (g o j : Nat) : Addr.add ⟨g, o, none⟩ j = ⟨g, o + j, none⟩ := by unfold Addr.add; split <;> simp_all
def BAt (w : World) (A : Option Addr) (c : Nat) (l : List UInt8) : Prop :=
  l.length ≤ c ∧ (0 < l.length → ∃ g o, A = some ⟨g, o, none⟩ ∧ g < w.heap.size ∧ ∀ (j : Nat) x, l[j]? = some x → w.cell? ⟨g, o + j, none⟩ = some (.int .u8 (x.toNat : Int)))
theorem BAt.keep {w w' : World} {A : Option Addr} {c : Nat} {l : List UInt8} (h : BAt w A c l) {B : Nat} (k : Below B w w') (hB : ∀ g o, A = some ⟨g, o, none⟩ → 0 < l.length → g < B) : BAt w' A c l :=
  ⟨h.1, fun hp => by
    obtain ⟨g, o, e, hg, hc⟩ := h.2 hp
    exact ⟨g, o, e, Nat.lt_of_lt_of_le hg (k.size), fun j x hx => (k.cell (p := ⟨g, _, none⟩) (hB g o e hp)).trans (hc j x hx)⟩⟩
theorem BAt.grow {w w' : World} {A : Option Addr} {c : Nat} {l : List UInt8} (h : BAt w A c l) (k : Below w.heap.size w w') : BAt w' A c l :=
  ⟨h.1, fun hp => by
    obtain ⟨g, o, e, hg, hc⟩ := h.2 hp
    exact ⟨g, o, e, Nat.lt_of_lt_of_le hg k.size, fun j x hx => (k.cell (p := ⟨g, _, none⟩) hg).trans (hc j x hx)⟩⟩
theorem BAt.nil (w : World) (A : Option Addr) (c : Nat) : BAt w A c [] := ⟨Nat.zero_le _, fun h => by simp at h⟩
theorem BAt.at_ {w : World} {A : Option Addr} {c : Nat} {b : List UInt8} (h : BAt w A c b) {i : Nat} (hi : i < b.length) : ∃ g o x, A = some ⟨g, o, none⟩ ∧ g < w.heap.size ∧ b[i]? = some x ∧ w.cell? ⟨g, o + i, none⟩ = some (.int .u8 (x.toNat : Int)) := by
  obtain ⟨g, o, e, hg, hc⟩ := h.2 (by omega)
  exact ⟨g, o, _, e, hg, List.getElem?_eq_getElem hi, hc i _ (List.getElem?_eq_getElem hi)⟩
theorem BAt.take {w : World} {A : Option Addr} {c : Nat} {b : List UInt8} (h : BAt w A c b) (k : Nat) : BAt w A c (b.take k) := by
  refine ⟨Nat.le_trans (by rw [List.length_take]; omega) h.1, fun hp => ?_⟩
  rw [List.length_take] at hp
  obtain ⟨g, o, e, hg, hc⟩ := h.2 (by omega)
  refine ⟨g, o, e, hg, fun j p hj => hc j p ?_⟩
  rw [List.getElem?_take] at hj
  split at hj
  · exact hj
  · cases hj
theorem BAt.text {w : World} {A : Option Addr} {c : Nat} {l : List UInt8} (h : BAt w A c l) : (convert 23 9 (.slice A l.length c)).run Try.prog w = .ok (.string (bs l)) w := by
  by_cases h0 : l.length = 0
  · obtain rfl := List.eq_nil_of_length_eq_zero h0
    cases A with
    | none =>
      rw [run_convert_bytes_string w 23 9 5 none ([] : List UInt8).length c Try.underlying23 Try.underlying5 Try.underlying9]
      rfl
    | some a => exact run_convert_bytes_back (P := Try.prog) w 23 9 5 a c [] Try.underlying23 Try.underlying5 Try.underlying9 (fun j hj => by simp at hj)
  · obtain ⟨g, o, rfl, hg, hc⟩ := h.2 (by omega)
    exact run_convert_bytes_back (P := Try.prog) w 23 9 5 ⟨g, o, none⟩ c l Try.underlying23 Try.underlying5 Try.underlying9 (fun j hj => by
      rw [addr_addB]; exact hc j _ (List.getElem?_eq_getElem hj))
theorem infoByte : (Try.prog.info? 5).map (fun i => (i.zero, i.size, i.bytes)) = some (some (.int .u8 0), 1, 1) := by kernel_rfl
theorem BRow.at_ {w : World} {base : Nat} {v : Value} {l : List UInt8} (h : BRow w base 5 v l) : ∃ A c, v = .slice A l.length c ∧ BAt w A c l := by
  have hc := fun (g : Nat) (hg : v.ownBlock = some g) => World.ownsRow.cells h hg
  rcases h.2 with ⟨rfl, hn⟩ | ⟨g, cap, cur, rfl, h1, h2, h3, _⟩
  · obtain rfl : l = [] := List.eq_nil_of_length_eq_zero hn
    exact ⟨none, 0, rfl, BAt.nil _ _ _⟩
  · refine ⟨_, cap, rfl, h3, fun _ => ⟨g, 0, rfl, (Array.getElem?_eq_some_iff.1 h2).1, fun j x hx => ?_⟩⟩
    have := hc g rfl j (.int .u8 (x.toNat : Int)) (by simp [cb, hx])
    rw [addr_addB] at this
    exact this
/-- Bytes that are read, as a source. -/
theorem BAt.src {w : World} {A : Option Addr} {c : Nat} {l : List UInt8} (h : BAt w A c l) : Src Try.prog 1 23 (.slice A l.length c) l.length (cb l) w := by
  by_cases h0 : l.length = 0
  · obtain rfl := List.eq_nil_of_length_eq_zero h0
    cases A with
    | none => exact Src.ofNil w Try.underlying23 c
    | some a => exact Src.ofSlice w Try.underlying23 a 0 c [] rfl (fun j u hu => by simp at hu) (fun u hu => by cases hu)
  · obtain ⟨g, o, rfl, hg, hc⟩ := h.2 (by omega)
    refine Src.ofSlice w Try.underlying23 ⟨g, o, none⟩ _ c (cb l) (by simp [cb]) (fun j u hu => ?_) (fun u hu => ?_)
    · rw [addr_addB]
      have : ∃ x, l[j]? = some x ∧ u = .int .u8 (x.toNat : Int) := by
        simp only [cb, List.getElem?_map, Option.map_eq_some_iff] at hu
        obtain ⟨x, h1, h2⟩ := hu
        exact ⟨x, h1, h2.symm⟩
      obtain ⟨x, hx, rfl⟩ := this
      exact hc j x hx
    · simp only [cb, List.mem_map] at hu
      obtain ⟨x, _, rfl⟩ := hu
      rfl
end Go.Proofs.Ytbdkoagagcemcaa

/-
  DERIVED: THE SHELF's CONTRACTS AT THIS DUMP, IN PLAIN WORDS (tools/lay-plain.mjs out of 'TryShelf.lean', which tools/lay-shelf.mjs wrote): THE SAME DECLARATIONS UNDER THE SAME NAMES: 'import', 'namespace', 'open', 'def', 'theorem' AND NOTHING ELSE: no command of the shelf's: FOR A HAND-IN. Each laying: the table of numbers ('.._ren') and one theorem, a field a fact of the dump's own or the kernel's comparison; each contract: ONE APPLICATION.
-/
namespace Go.Proofs
open Go.Shelf
def Try.keysA_ren : Go.Shelf.Ren := ⟨fun | 7 => 76 | 10 => 97 | n => n, fun | 23 => 92 | 26 => 3 | 3 => 3 | 28 => 97 | 0 => 0 | 27 => 96 | 33 => 81 | 4 => 4 | n => n, fun | n => n⟩
theorem Try.keysA : Go.Proofs.SlLaysZI.n7 Try.prog Try.keysA_ren := {
  mixed := by kernel_rfl
  f7 := ⟨Try.f76.name, by decide, Try.func76.trans (congrArg some (by kernel_rfl))⟩
  f10 := ⟨Try.f97.name, by decide, Try.func97.trans (congrArg some (by kernel_rfl))⟩
  t0 := Try.underlying0
  a0 := Try.isAgg0
  z0 := Try.sizeOf0
  v0 := Try.zeroValue0
  t4 := Try.underlying4
  a4 := Try.isAgg4
  z4 := Try.sizeOf4
  v4 := Try.zeroValue4
  t23 := Try.underlying92
  a23 := Try.isAgg92
  z23 := Try.sizeOf92
  v23 := Try.zeroValue92
  t26 := Try.underlying3
  a26 := Try.isAgg3
  z26 := Try.sizeOf3
  v26 := Try.zeroValue3
  t27 := Try.underlying96
  a27 := Try.isAgg96
  z27 := Try.sizeOf96
  v27 := Try.zeroValue96
  t28 := Try.underlying97
  a28 := Try.isAgg97
  z28 := Try.sizeOf97
  v28 := Try.zeroValue97
  t33 := Try.underlying81
  a33 := Try.isAgg81
  z33 := Try.sizeOf81
  v33 := Try.zeroValue81 }
def Try.collectA_ren : Go.Shelf.Ren := ⟨fun | 8 => 95 | 11 => 108 | n => n, fun | 26 => 3 | 28 => 97 | 24 => 22 | 0 => 0 | 33 => 81 | 4 => 4 | n => n, fun | n => n⟩
theorem Try.collectA : Go.Proofs.SlLaysZI.n8 Try.prog Try.collectA_ren := {
  mixed := by kernel_rfl
  f8 := ⟨Try.f95.name, by decide, Try.func95.trans (congrArg some (by kernel_rfl))⟩
  f11 := ⟨Try.f108.name, by decide, Try.func108.trans (congrArg some (by kernel_rfl))⟩
  t0 := Try.underlying0
  a0 := Try.isAgg0
  z0 := Try.sizeOf0
  v0 := Try.zeroValue0
  t24 := Try.underlying22
  a24 := Try.isAgg22
  z24 := Try.sizeOf22
  v24 := Try.zeroValue22
  t26 := Try.underlying3
  a26 := Try.isAgg3
  z26 := Try.sizeOf3
  v26 := Try.zeroValue3
  t28 := Try.underlying97
  a28 := Try.isAgg97
  z28 := Try.sizeOf97
  v28 := Try.zeroValue97
  i26 := by kernel_rfl }
def Try.delA_ren : Go.Shelf.Ren := ⟨fun | 5 => 73 | n => n, fun | 23 => 92 | 26 => 3 | 24 => 3 | 27 => 94 | 0 => 0 | 4 => 4 | n => n, fun | n => n⟩
theorem Try.delA : Go.Proofs.SlLaysDf.n5 Try.prog Try.delA_ren := {
  mixed := by kernel_rfl
  f5 := ⟨Try.f73.name, by decide, Try.func73.trans (congrArg some (by kernel_rfl))⟩
  t0 := Try.underlying0
  a0 := Try.isAgg0
  z0 := Try.sizeOf0
  v0 := Try.zeroValue0
  t4 := Try.underlying4
  a4 := Try.isAgg4
  z4 := Try.sizeOf4
  v4 := Try.zeroValue4
  t23 := Try.underlying92
  a23 := Try.isAgg92
  z23 := Try.sizeOf92
  v23 := Try.zeroValue92
  a24 := Try.isAgg3
  z24 := Try.sizeOf3
  a26 := Try.isAgg3
  z26 := Try.sizeOf3
  t27 := Try.underlying94
  a27 := Try.isAgg94
  z27 := Try.sizeOf94
  v27 := Try.zeroValue94 }
def Try.sortA_ren : Go.Shelf.Ren := ⟨fun | 6 => 96 | 15 => 66 | 14 => 109 | 28 => 92 | 29 => 93 | 20 => 112 | 21 => 113 | 22 => 114 | 23 => 115 | 24 => 116 | 25 => 117 | 26 => 118 | 27 => 119 | 46 => 120 | 47 => 103 | 48 => 104 | 49 => 121 | 50 => 122 | 57 => 123 | n => n, fun | 22 => 22 | 24 => 3 | 25 => 100 | 3 => 3 | 39 => 82 | 0 => 0 | 53 => 113 | 55 => 61 | 4 => 4 | 46 => 106 | 45 => 105 | 50 => 48 | 5 => 5 | 9 => 9 | 66 => 118 | 70 => 122 | 76 => 128 | 77 => 129 | n => n, fun | n => n⟩
theorem Try.sortA : Go.Proofs.SlLaysF.n6 Try.prog Try.sortA_ren := {
  mixed := by kernel_rfl
  f6 := ⟨Try.f96.name, by decide, Try.func96.trans (congrArg some (by kernel_rfl))⟩
  f14 := ⟨Try.f109.name, by decide, Try.func109.trans (congrArg some (by kernel_rfl))⟩
  f15 := Try.func66.trans (congrArg some (by kernel_rfl))
  f20 := ⟨Try.f112.name, by decide, Try.func112.trans (congrArg some (by kernel_rfl))⟩
  f21 := ⟨Try.f113.name, by decide, Try.func113.trans (congrArg some (by kernel_rfl))⟩
  f22 := ⟨Try.f114.name, by decide, Try.func114.trans (congrArg some (by kernel_rfl))⟩
  f23 := ⟨Try.f115.name, by decide, Try.func115.trans (congrArg some (by kernel_rfl))⟩
  f24 := ⟨Try.f116.name, by decide, Try.func116.trans (congrArg some (by kernel_rfl))⟩
  f25 := ⟨Try.f117.name, by decide, Try.func117.trans (congrArg some (by kernel_rfl))⟩
  f26 := ⟨Try.f118.name, by decide, Try.func118.trans (congrArg some (by kernel_rfl))⟩
  f27 := ⟨Try.f119.name, by decide, Try.func119.trans (congrArg some (by kernel_rfl))⟩
  f28 := Try.func92.trans (congrArg some (by kernel_rfl))
  f29 := Try.func93.trans (congrArg some (by kernel_rfl))
  f46 := ⟨Try.f120.name, by decide, Try.func120.trans (congrArg some (by kernel_rfl))⟩
  f47 := Try.func103.trans (congrArg some (by kernel_rfl))
  f48 := Try.func104.trans (congrArg some (by kernel_rfl))
  f49 := ⟨Try.f121.name, by decide, Try.func121.trans (congrArg some (by kernel_rfl))⟩
  f50 := ⟨Try.f122.name, by decide, Try.func122.trans (congrArg some (by kernel_rfl))⟩
  f57 := ⟨Try.f123.name, by decide, Try.func123.trans (congrArg some (by kernel_rfl))⟩
  t0 := Try.underlying0
  a0 := Try.isAgg0
  z0 := Try.sizeOf0
  v0 := Try.zeroValue0
  t3 := Try.underlying3
  a3 := Try.isAgg3
  z3 := Try.sizeOf3
  v3 := Try.zeroValue3
  t4 := Try.underlying4
  a4 := Try.isAgg4
  z4 := Try.sizeOf4
  v4 := Try.zeroValue4
  t5 := Try.underlying5
  a5 := Try.isAgg5
  z5 := Try.sizeOf5
  v5 := Try.zeroValue5
  t9 := Try.underlying9
  a9 := Try.isAgg9
  z9 := Try.sizeOf9
  v9 := Try.zeroValue9
  t22 := Try.underlying22
  a22 := Try.isAgg22
  z22 := Try.sizeOf22
  v22 := Try.zeroValue22
  a24 := Try.isAgg3
  z24 := Try.sizeOf3
  t25 := Try.underlying100
  a25 := Try.isAgg100
  z25 := Try.sizeOf100
  v25 := Try.zeroValue100
  t39 := Try.underlying82
  a39 := Try.isAgg82
  z39 := Try.sizeOf82
  v39 := Try.zeroValue82
  t45 := Try.underlying105
  a45 := Try.isAgg105
  z45 := Try.sizeOf105
  v45 := Try.zeroValue105
  t46 := Try.underlying106
  a46 := Try.isAgg106
  z46 := Try.sizeOf106
  v46 := Try.zeroValue106
  t50 := Try.underlying48
  a50 := Try.isAgg48
  z50 := Try.sizeOf48
  v50 := Try.zeroValue48
  t53 := Try.underlying113
  a53 := Try.isAgg113
  z53 := Try.sizeOf113
  v53 := Try.zeroValue113
  t55 := Try.underlying61
  a55 := Try.isAgg61
  z55 := Try.sizeOf61
  v55 := Try.zeroValue61
  t66 := Try.underlying118
  a66 := Try.isAgg118
  z66 := Try.sizeOf118
  v66 := Try.zeroValue118
  t70 := Try.underlying122
  a70 := Try.isAgg122
  z70 := Try.sizeOf122
  v70 := Try.zeroValue122
  t76 := Try.underlying128
  a76 := Try.isAgg128
  z76 := Try.sizeOf128
  v76 := Try.zeroValue128
  t77 := Try.underlying129
  a77 := Try.isAgg129
  z77 := Try.sizeOf129
  v77 := Try.zeroValue129 }
def Try.idxA_ren : Go.Shelf.Ren := ⟨fun | 6 => 110 | n => n, fun | 22 => 22 | 23 => 3 | 25 => 81 | 3 => 3 | 0 => 0 | 4 => 4 | n => n, fun | n => n⟩
theorem Try.idxA : Go.Proofs.SlLaysH.n6 Try.prog Try.idxA_ren := {
  mixed := by kernel_rfl
  f6 := ⟨Try.f110.name, by decide, Try.func110.trans (congrArg some (by kernel_rfl))⟩
  t0 := Try.underlying0
  a0 := Try.isAgg0
  z0 := Try.sizeOf0
  v0 := Try.zeroValue0
  t3 := Try.underlying3
  a3 := Try.isAgg3
  z3 := Try.sizeOf3
  v3 := Try.zeroValue3
  t4 := Try.underlying4
  a4 := Try.isAgg4
  z4 := Try.sizeOf4
  v4 := Try.zeroValue4
  t22 := Try.underlying22
  a22 := Try.isAgg22
  z22 := Try.sizeOf22
  v22 := Try.zeroValue22
  a23 := Try.isAgg3
  z23 := Try.sizeOf3
  t25 := Try.underlying81
  a25 := Try.isAgg81
  z25 := Try.sizeOf81
  v25 := Try.zeroValue81 }
def Try.conA_ren : Go.Shelf.Ren := ⟨fun | 8 => 99 | 6 => 110 | n => n, fun | 22 => 22 | 23 => 3 | 25 => 81 | 4 => 4 | 3 => 3 | 0 => 0 | n => n, fun | n => n⟩
theorem Try.conA : Go.Proofs.SlLaysH.n8 Try.prog Try.conA_ren := {
  mixed := by kernel_rfl
  f6 := ⟨Try.f110.name, by decide, Try.func110.trans (congrArg some (by kernel_rfl))⟩
  f8 := ⟨Try.f99.name, by decide, Try.func99.trans (congrArg some (by kernel_rfl))⟩
  t0 := Try.underlying0
  a0 := Try.isAgg0
  z0 := Try.sizeOf0
  v0 := Try.zeroValue0
  t3 := Try.underlying3
  a3 := Try.isAgg3
  z3 := Try.sizeOf3
  v3 := Try.zeroValue3
  t4 := Try.underlying4
  a4 := Try.isAgg4
  z4 := Try.sizeOf4
  v4 := Try.zeroValue4
  t22 := Try.underlying22
  a22 := Try.isAgg22
  z22 := Try.sizeOf22
  v22 := Try.zeroValue22
  a23 := Try.isAgg3
  z23 := Try.sizeOf3
  t25 := Try.underlying81
  a25 := Try.isAgg81
  z25 := Try.sizeOf81
  v25 := Try.zeroValue81 }
def Try.lays128_ren : Go.Shelf.Ren := ⟨fun | 128 => 92 | n => n, fun | 51 => 113 | 3 => 3 | 4 => 4 | 46 => 82 | 5 => 5 | 9 => 9 | n => n, fun | n => n⟩
theorem Try.lays128 : Go.Proofs.Lays.n128 Try.prog Try.lays128_ren := {
  mixed := by kernel_rfl
  f128 := Try.func92.trans (congrArg some (by kernel_rfl))
  t3 := Try.underlying3
  a3 := Try.isAgg3
  z3 := Try.sizeOf3
  v3 := Try.zeroValue3
  t4 := Try.underlying4
  a4 := Try.isAgg4
  z4 := Try.sizeOf4
  v4 := Try.zeroValue4
  t5 := Try.underlying5
  a5 := Try.isAgg5
  z5 := Try.sizeOf5
  v5 := Try.zeroValue5
  t9 := Try.underlying9
  a9 := Try.isAgg9
  z9 := Try.sizeOf9
  v9 := Try.zeroValue9
  t46 := Try.underlying82
  a46 := Try.isAgg82
  z46 := Try.sizeOf82
  v46 := Try.zeroValue82
  t51 := Try.underlying113
  a51 := Try.isAgg113
  z51 := Try.sizeOf113
  v51 := Try.zeroValue113 }
/-- bits.Len32: "Len32 returns the minimum number of bits required to represent x; the result is 0 for x == 0.": IT RETURNS 'Lib.bitLen x'; the world is as it was. ('h0', 'h1': x is a uint32.) (LAID: no walk: one application.) -/
theorem Try.bits_Len32 (x : Int) (w : World) (h0 : 0 ≤ x) (h1 : x ≤ 4294967295) :
    Calls Try.prog 92 #[.int .u32 x] w fun e w' => e = .returned (.int .i64 (Lib.bitLen x.toNat)) ∧ w' = w := Any.bits_Len32 Try.lays128 x w h0 h1
def Try.lays125_ren : Go.Shelf.Ren := ⟨fun | 125 => 66 | 128 => 92 | 129 => 93 | n => n, fun | 46 => 82 | 3 => 3 | 51 => 113 | 53 => 61 | 4 => 4 | 5 => 5 | 9 => 9 | n => n, fun | n => n⟩
theorem Try.lays125 : Go.Proofs.Lays.n125 Try.prog Try.lays125_ren := {
  mixed := by kernel_rfl
  f125 := Try.func66.trans (congrArg some (by kernel_rfl))
  f128 := Try.func92.trans (congrArg some (by kernel_rfl))
  f129 := Try.func93.trans (congrArg some (by kernel_rfl))
  t3 := Try.underlying3
  a3 := Try.isAgg3
  z3 := Try.sizeOf3
  v3 := Try.zeroValue3
  t4 := Try.underlying4
  a4 := Try.isAgg4
  z4 := Try.sizeOf4
  v4 := Try.zeroValue4
  t5 := Try.underlying5
  a5 := Try.isAgg5
  z5 := Try.sizeOf5
  v5 := Try.zeroValue5
  t9 := Try.underlying9
  a9 := Try.isAgg9
  z9 := Try.sizeOf9
  v9 := Try.zeroValue9
  t46 := Try.underlying82
  a46 := Try.isAgg82
  z46 := Try.sizeOf82
  v46 := Try.zeroValue82
  t51 := Try.underlying113
  a51 := Try.isAgg113
  z51 := Try.sizeOf113
  v51 := Try.zeroValue113
  t53 := Try.underlying61
  a53 := Try.isAgg61
  z53 := Try.sizeOf61
  v53 := Try.zeroValue61 }
/-- bits.Len: "Len returns the minimum number of bits required to represent x; the result is 0 for x == 0.": IT RETURNS 'Lib.bitLen x'; the world is as it was. (A uint has 64 bits in the model.) ITS CALLEE bits.Len64 IS MET BY ITS OWN CONTRACT OFF THE SHELF (lay that first). (LAID: no walk: one application.) -/
theorem Try.bits_Len (x : Int) (w : World) (h0 : 0 ≤ x) (h1 : x ≤ 18446744073709551615) :
    Calls Try.prog 66 #[.int .u64 x] w fun e w' => e = .returned (.int .i64 (Lib.bitLen x.toNat)) ∧ w' = w := Any.bits_Len Try.lays125 x w h0 h1
def Try.lays215_ren : Go.Shelf.Ren := ⟨fun | 215 => 98 | n => n, fun | 3 => 3 | 4 => 4 | n => n, fun | n => n⟩
theorem Try.lays215 : Go.Proofs.Lays.n215 Try.prog Try.lays215_ren := {
  mixed := by kernel_rfl
  f215 := Try.func98.trans (congrArg some (by kernel_rfl))
  t3 := Try.underlying3
  a3 := Try.isAgg3
  z3 := Try.sizeOf3
  v3 := Try.zeroValue3
  t4 := Try.underlying4
  a4 := Try.isAgg4
  z4 := Try.sizeOf4
  v4 := Try.zeroValue4 }
open Go.RowKit in
/-- cmp.isNaN at int: 'x != x': false. (LAID: no walk: one application.) -/
theorem Try.cmp_isNaN_int (x : Int) (w : World) :
    Calls Try.prog 98 #[.int .i64 x] w fun e w' => e = .returned (.bool false) ∧ w' = w := Any.cmp_isNaN_int Try.lays215 x w
def Try.lays122_ren : Go.Shelf.Ren := ⟨fun | 122 => 79 | 215 => 98 | n => n, fun | 3 => 3 | 4 => 4 | n => n, fun | n => n⟩
theorem Try.lays122 : Go.Proofs.Lays.n122 Try.prog Try.lays122_ren := {
  mixed := by kernel_rfl
  f122 := Try.func79.trans (congrArg some (by kernel_rfl))
  f215 := Try.func98.trans (congrArg some (by kernel_rfl))
  t3 := Try.underlying3
  a3 := Try.isAgg3
  z3 := Try.sizeOf3
  v3 := Try.zeroValue3
  t4 := Try.underlying4
  a4 := Try.isAgg4
  z4 := Try.sizeOf4
  v4 := Try.zeroValue4 }
open Go.RowKit in
/-- cmp.Compare at int: "Compare returns -1 if x is less than y, 0 if x equals y, +1 if x is greater than y.": IT RETURNS 'Lib.compareInt x y'; the world is as it was. (LAID: no walk: one application.) -/
theorem Try.cmp_Compare_int (x y : Int) (w : World) :
    Calls Try.prog 79 #[.int .i64 x, .int .i64 y] w fun e w' => e = .returned (.int .i64 (Lib.compareInt x y)) ∧ w' = w := Any.cmp_Compare_int Try.lays122 x y w
def Try.lays129_ren : Go.Shelf.Ren := ⟨fun | 129 => 93 | n => n, fun | 53 => 61 | 3 => 3 | 4 => 4 | 46 => 82 | 5 => 5 | 9 => 9 | n => n, fun | n => n⟩
theorem Try.lays129 : Go.Proofs.Lays.n129 Try.prog Try.lays129_ren := {
  mixed := by kernel_rfl
  f129 := Try.func93.trans (congrArg some (by kernel_rfl))
  t3 := Try.underlying3
  a3 := Try.isAgg3
  z3 := Try.sizeOf3
  v3 := Try.zeroValue3
  t4 := Try.underlying4
  a4 := Try.isAgg4
  z4 := Try.sizeOf4
  v4 := Try.zeroValue4
  t5 := Try.underlying5
  a5 := Try.isAgg5
  z5 := Try.sizeOf5
  v5 := Try.zeroValue5
  t9 := Try.underlying9
  a9 := Try.isAgg9
  z9 := Try.sizeOf9
  v9 := Try.zeroValue9
  t46 := Try.underlying82
  a46 := Try.isAgg82
  z46 := Try.sizeOf82
  v46 := Try.zeroValue82
  t53 := Try.underlying61
  a53 := Try.isAgg61
  z53 := Try.sizeOf61
  v53 := Try.zeroValue61 }
/-- bits.Len64: "Len64 returns the minimum number of bits required to represent x; the result is 0 for x == 0.": IT RETURNS 'Lib.bitLen x'; the world is as it was. ('h0', 'h1': x is a uint64.) (LAID: no walk: one application.) -/
theorem Try.bits_Len64 (x : Int) (w : World) (h0 : 0 ≤ x) (h1 : x ≤ 18446744073709551615) :
    Calls Try.prog 93 #[.int .u64 x] w fun e w' => e = .returned (.int .i64 (Lib.bitLen x.toNat)) ∧ w' = w := Any.bits_Len64 Try.lays129 x w h0 h1
def Try.lays190_ren : Go.Shelf.Ren := ⟨fun | 190 => 45 | 125 => 66 | 258 => 65 | 128 => 92 | 129 => 93 | 302 => 83 | 303 => 84 | 304 => 85 | 305 => 86 | 306 => 87 | 307 => 88 | 308 => 89 | 309 => 90 | 310 => 91 | 333 => 102 | 329 => 103 | 330 => 104 | 334 => 105 | 335 => 106 | 336 => 107 | 344 => 111 | n => n, fun | 31 => 47 | 9 => 9 | 3 => 3 | 46 => 82 | 0 => 0 | 51 => 113 | 53 => 61 | 4 => 4 | 183 => 106 | 182 => 105 | 131 => 48 | 5 => 5 | 218 => 118 | 222 => 122 | 228 => 128 | 229 => 129 | n => n, fun | n => n⟩
theorem Try.lays190 : Go.Proofs.Lays.n190 Try.prog Try.lays190_ren := {
  mixed := by kernel_rfl
  f125 := Try.func66.trans (congrArg some (by kernel_rfl))
  f128 := Try.func92.trans (congrArg some (by kernel_rfl))
  f129 := Try.func93.trans (congrArg some (by kernel_rfl))
  f190 := Try.func45.trans (congrArg some (by kernel_rfl))
  f258 := Try.func65.trans (congrArg some (by kernel_rfl))
  f302 := Try.func83.trans (congrArg some (by kernel_rfl))
  f303 := Try.func84.trans (congrArg some (by kernel_rfl))
  f304 := Try.func85.trans (congrArg some (by kernel_rfl))
  f305 := Try.func86.trans (congrArg some (by kernel_rfl))
  f306 := Try.func87.trans (congrArg some (by kernel_rfl))
  f307 := Try.func88.trans (congrArg some (by kernel_rfl))
  f308 := Try.func89.trans (congrArg some (by kernel_rfl))
  f309 := Try.func90.trans (congrArg some (by kernel_rfl))
  f310 := Try.func91.trans (congrArg some (by kernel_rfl))
  f329 := Try.func103.trans (congrArg some (by kernel_rfl))
  f330 := Try.func104.trans (congrArg some (by kernel_rfl))
  f333 := Try.func102.trans (congrArg some (by kernel_rfl))
  f334 := Try.func105.trans (congrArg some (by kernel_rfl))
  f335 := Try.func106.trans (congrArg some (by kernel_rfl))
  f336 := Try.func107.trans (congrArg some (by kernel_rfl))
  f344 := Try.func111.trans (congrArg some (by kernel_rfl))
  t0 := Try.underlying0
  a0 := Try.isAgg0
  z0 := Try.sizeOf0
  v0 := Try.zeroValue0
  t3 := Try.underlying3
  a3 := Try.isAgg3
  z3 := Try.sizeOf3
  v3 := Try.zeroValue3
  t4 := Try.underlying4
  a4 := Try.isAgg4
  z4 := Try.sizeOf4
  v4 := Try.zeroValue4
  t5 := Try.underlying5
  a5 := Try.isAgg5
  z5 := Try.sizeOf5
  v5 := Try.zeroValue5
  t9 := Try.underlying9
  a9 := Try.isAgg9
  z9 := Try.sizeOf9
  v9 := Try.zeroValue9
  t31 := Try.underlying47
  a31 := Try.isAgg47
  z31 := Try.sizeOf47
  v31 := Try.zeroValue47
  t46 := Try.underlying82
  a46 := Try.isAgg82
  z46 := Try.sizeOf82
  v46 := Try.zeroValue82
  t51 := Try.underlying113
  a51 := Try.isAgg113
  z51 := Try.sizeOf113
  v51 := Try.zeroValue113
  t53 := Try.underlying61
  a53 := Try.isAgg61
  z53 := Try.sizeOf61
  v53 := Try.zeroValue61
  t131 := Try.underlying48
  a131 := Try.isAgg48
  z131 := Try.sizeOf48
  v131 := Try.zeroValue48
  t182 := Try.underlying105
  a182 := Try.isAgg105
  z182 := Try.sizeOf105
  v182 := Try.zeroValue105
  t183 := Try.underlying106
  a183 := Try.isAgg106
  z183 := Try.sizeOf106
  v183 := Try.zeroValue106
  t218 := Try.underlying118
  a218 := Try.isAgg118
  z218 := Try.sizeOf118
  v218 := Try.zeroValue118
  t222 := Try.underlying122
  a222 := Try.isAgg122
  z222 := Try.sizeOf122
  v222 := Try.zeroValue122
  t228 := Try.underlying128
  a228 := Try.isAgg128
  z228 := Try.sizeOf128
  v228 := Try.zeroValue128
  t229 := Try.underlying129
  a229 := Try.isAgg129
  z229 := Try.sizeOf129
  v229 := Try.zeroValue129 }
open Go.Sort Go.RowKit in
theorem Try.slices_Sort_string (blk off cap : Nat) (ss : List (List UInt8)) (w : World) (hH : Holds encStr w blk off ss.toArray) (hblk : blk < w.heap.size) (hsz : ss.length < 4611686018427387904) :
    Calls Try.prog 45 #[.slice (some ⟨blk, off, none⟩) ss.length cap] w fun e w' =>
      e = .returned (.tuple #[]) ∧ ∃ n os, w' = grow (putRow encStr (Sort.ahead w n) blk off (ss.mergeSort fun x y => decide (x ≤ y)).toArray) os := Any.slices_Sort_string Try.lays190 blk off cap ss w hH hblk hsz
def Try.laysNm216_ren : Go.Shelf.Ren := ⟨fun | 16 => 44 | n => n, fun | 24 => 47 | 9 => 9 | 4 => 4 | n => n, fun | n => n⟩
theorem Try.laysNm216 : Go.Proofs.Lays2.n16 Try.prog Try.laysNm216_ren := {
  mixed := by kernel_rfl
  f16 := Try.func44.trans (congrArg some (by kernel_rfl))
  t4 := Try.underlying4
  a4 := Try.isAgg4
  z4 := Try.sizeOf4
  v4 := Try.zeroValue4
  t9 := Try.underlying9
  a9 := Try.isAgg9
  z9 := Try.sizeOf9
  v9 := Try.zeroValue9
  t24 := Try.underlying47
  a24 := Try.isAgg47
  z24 := Try.sizeOf47
  v24 := Try.zeroValue47
  i9 := by kernel_rfl }
open Go.RowKit Go.Lib in
/-- slices.Clone at []string: "Clone returns a copy of the slice. The elements are copied using assignment, so this is a shallow clone. The result may have additional unused capacity. The result preserves the nilness of s.": OF A SLICE THAT IS NOT nil IT RETURNS A SLICE THAT IS NOT nil, OF THE SAME ELEMENTS, IN MEMORY OF THE CALL's OWN: in the how-to's words (6f): 'w'.ownsRow B e 1 v' n cells': v' begins at the head of a row among the blocks from B on (B: the heap's size at the call), not frozen, whose first cells are the elements · 'Below B w w'': below B all is as it was. The capacity is whatever the run-time gives. 'zs': what the cells behind the slice's address hold; 'zs.take n': its elements. (LAID: no walk: one application.) -/
theorem Try.slices_Clone_string (b off n c : Nat) (zs : List ByteArray) (w : World) (hz : n ≤ zs.length) (hbig : n * 16 ≤ 140737488355328) (hc : ∀ j, j < zs.length → w.cell? ⟨b, off + j, none⟩ = some (.string (zs.getD j ByteArray.empty))) :
    Calls Try.prog 44 #[.slice (some ⟨b, off, none⟩) n c] w fun e w' => ∃ v', e = .returned v' ∧ w'.ownsRow w.heap.size 9 1 v' n ((zs.take n).map (Value.string)) ∧ v' ≠ .slice none 0 0 ∧ Below w.heap.size w w' := Any.slices_Clone_string Try.laysNm216 b off n c zs w hz hbig hc
open Go.RowKit Go.Lib in
/-- The same at nil: nil comes back; the world is as it was. (LAID: no walk: one application.) -/
theorem Try.slices_Clone_string_nil (n c : Nat) (w : World) :
    Calls Try.prog 44 #[.slice none n c] w fun e w' => e = .returned (.slice none 0 0) ∧ w' = w := Any.slices_Clone_string_nil Try.laysNm216 n c w
open Go.RowKit Go.Lib in
/-- The same at a slice of length 0 that is not nil, WHATEVER ITS ADDRESS (no cell is asked for): a slice that is not nil and owns nothing comes back. (LAID: no walk: one application.) -/
theorem Try.slices_Clone_string_zero (a : Addr) (c : Nat) (w : World) :
    Calls Try.prog 44 #[.slice (some a) 0 c] w fun e w' => ∃ v', e = .returned v' ∧ w'.ownsRow w.heap.size 9 1 v' 0 [] ∧ v' ≠ .slice none 0 0 ∧ Below w.heap.size w w' := Any.slices_Clone_string_zero Try.laysNm216 a c w
def Try.lays194_ren : Go.Shelf.Ren := ⟨fun | 194 => 46 | n => n, fun | 31 => 47 | 9 => 9 | 3 => 3 | 4 => 4 | 0 => 0 | n => n, fun | n => n⟩
theorem Try.lays194 : Go.Proofs.Lays.n194 Try.prog Try.lays194_ren := {
  mixed := by kernel_rfl
  f194 := Try.func46.trans (congrArg some (by kernel_rfl))
  t0 := Try.underlying0
  a0 := Try.isAgg0
  z0 := Try.sizeOf0
  v0 := Try.zeroValue0
  t3 := Try.underlying3
  a3 := Try.isAgg3
  z3 := Try.sizeOf3
  v3 := Try.zeroValue3
  t4 := Try.underlying4
  a4 := Try.isAgg4
  z4 := Try.sizeOf4
  v4 := Try.zeroValue4
  t9 := Try.underlying9
  a9 := Try.isAgg9
  z9 := Try.sizeOf9
  v9 := Try.zeroValue9
  t31 := Try.underlying47
  a31 := Try.isAgg47
  z31 := Try.sizeOf47
  v31 := Try.zeroValue47 }
open Go.RowKit Go.Lib Go.Sort in
/-- slices.Compact at []string, over an array: the library's two loops are walked. (LAID: no walk: one application.) -/
theorem Try.slices_Compact_string_arr (blk off cap : Nat) (d : Array (List UInt8)) (w : World) (hH : Holds encStr w blk off d) (hsz : d.size ≤ 9223372036854775807) (hcap : d.size ≤ cap) :
    Calls Try.prog 46 #[.slice (some ⟨blk, off, none⟩) d.size cap] w fun e w' => e = .returned (.slice (some ⟨blk, off, none⟩) (compactUpTo d d.size).length cap) ∧ ∃ q, w' = putRow encStr (Sort.ahead w q) blk off (compactUpTo d d.size ++ List.replicate (d.size - (compactUpTo d d.size).length) []).toArray := Any.slices_Compact_string_arr Try.lays194 blk off cap d w hH hsz hcap
open Go.RowKit Go.Lib Go.Sort in
/-- slices.Compact at []string: "Compact replaces consecutive runs of equal elements with a single copy. This is like the uniq command found on Unix. Compact modifies the contents of the slice s and returns the modified slice, which may have a smaller length. Compact zeroes the elements between the new length and the original length. The result preserves the nilness of s.": IT RETURNS THE SLICE CUT TO 'Lib.compact zs'; ITS CELLS HOLD 'Lib.compact zs', THEN ZERO VALUES up to the old length; all else is as it was, but for the count of draws. IN THE WORDS OF slices.Sort's CONTRACT ('Holds', 'putRow'): so the everyday 'slices.Sort(xs); xs = slices.Compact(xs)' goes from the one contract to the other. It asks 'zs.length ≤ cap' (every slice's: the reslicing 's[:k]' looks at it). Length 0, nil: '.._empty'. (LAID: no walk: one application.) -/
theorem Try.slices_Compact_string (blk off cap : Nat) (zs : List (List UInt8)) (w : World) (hH : Holds encStr w blk off zs.toArray) (hsz : zs.length ≤ 9223372036854775807) (hcap : zs.length ≤ cap) :
    Calls Try.prog 46 #[.slice (some ⟨blk, off, none⟩) zs.length cap] w fun e w' => e = .returned (.slice (some ⟨blk, off, none⟩) (Lib.compact zs).length cap) ∧ ∃ q, w' = putRow encStr (Sort.ahead w q) blk off (Lib.compact zs ++ List.replicate (zs.length - (Lib.compact zs).length) []).toArray := Any.slices_Compact_string Try.lays194 blk off cap zs w hH hsz hcap
open Go.RowKit Go.Lib Go.Sort in
/-- The same at a slice of length 0, a nil one too: it comes back as it is. (LAID: no walk: one application.) -/
theorem Try.slices_Compact_string_empty (a : Option Addr) (cap : Nat) (w : World) :
    Calls Try.prog 46 #[.slice a 0 cap] w fun e w' => e = .returned (.slice a 0 cap) ∧ w' = w := Any.slices_Compact_string_empty Try.lays194 a cap w
def Try.laysNm237_ren : Go.Shelf.Ren := ⟨fun | 37 => 98 | n => n, fun | 3 => 3 | 4 => 4 | n => n, fun | n => n⟩
theorem Try.laysNm237 : Go.Proofs.Lays2.n37 Try.prog Try.laysNm237_ren := {
  mixed := by kernel_rfl
  f37 := Try.func98.trans (congrArg some (by kernel_rfl))
  t3 := Try.underlying3
  a3 := Try.isAgg3
  z3 := Try.sizeOf3
  v3 := Try.zeroValue3
  t4 := Try.underlying4
  a4 := Try.isAgg4
  z4 := Try.sizeOf4
  v4 := Try.zeroValue4 }
open Go.RowKit Go.Lib in
/-- cmp.isNaN[int]: 'x != x': false. (LAID: no walk: one application.) -/
theorem Try.cmp_isNaN_int2 (x : Int) (w : World) :
    Calls Try.prog 98 #[.int .i64 x] w fun e w' => e = .returned (.bool false) ∧ w' = w := Any.cmp_isNaN_int2 Try.laysNm237 x w
open Go.RowKit Go.Lib Go.Sort in
/-- slices.Compact at []string, of an argument. (LAID: no walk: one application.) -/
theorem Try.slices_Compact_string_cells (b off n c : Nat) (Sx : Nat → ByteArray) (w : World) (hbig : n ≤ 9223372036854775807) (hcap : n ≤ c) (hc : ∀ i, i < n → w.cell? ⟨b, off + i, none⟩ = some (.string (Sx i))) (hf : ∀ j, j < n → w.frozen? ⟨b, off + j, none⟩ = false) :
    Calls Try.prog 46 #[.slice (some ⟨b, off, none⟩) n c] w fun e w' => e = .returned (.slice (some ⟨b, off, none⟩) (Lib.compact (Lib.strsOf Sx n)).length c) ∧ ∃ q, w' = (w.drewN q).setCells b off ((Lib.compact (Lib.strsOf Sx n) ++ List.replicate (n - (Lib.compact (Lib.strsOf Sx n)).length) []).map encStr) := Any.slices_Compact_string_cells Try.lays194 b off n c Sx w hbig hcap hc hf
open Go.RowKit Go.Sort in
/-- .. and plain. (LAID: no walk: one application.) -/
theorem Try.slices_Sort_string_none (p : Option Addr) (cap : Nat) (w : World) :
    Calls Try.prog 45 #[.slice p 0 cap] w fun e w' => e = .returned (.tuple #[]) ∧ w' = w := Any.slices_Sort_string_none Try.lays190 p cap w
def Try.laysSlH6_f110_ren : Go.Shelf.Ren := ⟨fun | 6 => 110 | n => n, fun | 22 => 22 | 23 => 3 | 25 => 81 | 3 => 3 | 0 => 0 | 4 => 4 | n => n, fun | n => n⟩
theorem Try.laysSlH6_f110 : Go.Proofs.SlLaysH.n6 Try.prog Try.laysSlH6_f110_ren := {
  mixed := by kernel_rfl
  f6 := ⟨Try.f110.name, by decide, Try.func110.trans (congrArg some (by kernel_rfl))⟩
  t0 := Try.underlying0
  a0 := Try.isAgg0
  z0 := Try.sizeOf0
  v0 := Try.zeroValue0
  t3 := Try.underlying3
  a3 := Try.isAgg3
  z3 := Try.sizeOf3
  v3 := Try.zeroValue3
  t4 := Try.underlying4
  a4 := Try.isAgg4
  z4 := Try.sizeOf4
  v4 := Try.zeroValue4
  t22 := Try.underlying22
  a22 := Try.isAgg22
  z22 := Try.sizeOf22
  v22 := Try.zeroValue22
  a23 := Try.isAgg3
  z23 := Try.sizeOf3
  t25 := Try.underlying81
  a25 := Try.isAgg81
  z25 := Try.sizeOf81
  v25 := Try.zeroValue81 }
open Go.RowKit Go.Lib in
/-- slices.IndexFunc: "IndexFunc returns the first index i satisfying f(s[i]), or -1 if none do." (LAID AT THE INSTANCE 'slices.IndexFunc[[]int,int]': no walk: one application.) -/
theorem Try.slices_IndexFunc {α : Type} [Inhabited α] (enc : α → Value) (p : α → Bool) (g : Nat) (lb : Array Value) (eg : ∀ args w, (callFunc g args).run Try.prog w = .ok (.enter g args) w) (b off n c : Nat) (zs : List α) (w : World) (hp : PredAt Try.prog g lb enc p w) (hz : n ≤ zs.length) (hbig : n ≤ 9223372036854775807) (hc : ∀ j, j < zs.length → w.cell? ⟨b, off + j, none⟩ = some (enc zs[j]!)) :
    Calls Try.prog 110 #[.slice (some ⟨b, off, none⟩) n c, .func (.func g) #[] lb] w fun e w' => e = .returned (.int .i64 (Lib.idxBy (fun _ y => p y) (zs.take n) default)) ∧ ∃ q, w' = w.drewN q := AnyE.slices_IndexFunc Try.laysSlH6_f110 enc p g lb eg b off n c zs w hp hz hbig hc
open Go.RowKit Go.Lib in
/-- The same at a slice of length 0, a nil one too: the predicate is not called: nothing is asked of it. (LAID AT THE INSTANCE 'slices.IndexFunc[[]int,int]': no walk: one application.) -/
theorem Try.slices_IndexFunc_empty {α : Type} [Inhabited α] (a : Option Addr) (c : Nat) (fv : Value) (w : World) :
    Calls Try.prog 110 #[.slice a 0 c, fv] w fun e w' => e = .returned (.int .i64 (-1)) ∧ w' = w := AnyE.slices_IndexFunc_empty Try.laysSlH6_f110 a c fv w
def Try.laysSlH8_f99_ren : Go.Shelf.Ren := ⟨fun | 8 => 99 | 6 => 110 | n => n, fun | 22 => 22 | 23 => 3 | 25 => 81 | 4 => 4 | 3 => 3 | 0 => 0 | n => n, fun | n => n⟩
theorem Try.laysSlH8_f99 : Go.Proofs.SlLaysH.n8 Try.prog Try.laysSlH8_f99_ren := {
  mixed := by kernel_rfl
  f6 := ⟨Try.f110.name, by decide, Try.func110.trans (congrArg some (by kernel_rfl))⟩
  f8 := ⟨Try.f99.name, by decide, Try.func99.trans (congrArg some (by kernel_rfl))⟩
  t0 := Try.underlying0
  a0 := Try.isAgg0
  z0 := Try.sizeOf0
  v0 := Try.zeroValue0
  t3 := Try.underlying3
  a3 := Try.isAgg3
  z3 := Try.sizeOf3
  v3 := Try.zeroValue3
  t4 := Try.underlying4
  a4 := Try.isAgg4
  z4 := Try.sizeOf4
  v4 := Try.zeroValue4
  t22 := Try.underlying22
  a22 := Try.isAgg22
  z22 := Try.sizeOf22
  v22 := Try.zeroValue22
  a23 := Try.isAgg3
  z23 := Try.sizeOf3
  t25 := Try.underlying81
  a25 := Try.isAgg81
  z25 := Try.sizeOf81
  v25 := Try.zeroValue81 }
open Go.RowKit Go.Lib in
/-- slices.ContainsFunc: "ContainsFunc reports whether at least one element e of s satisfies f(e).": ITS CALLEE slices.IndexFunc IS MET BY ITS OWN CONTRACT. (LAID AT THE INSTANCE 'slices.ContainsFunc[[]int,int]': no walk: one application.) -/
theorem Try.slices_ContainsFunc {α : Type} [Inhabited α] (enc : α → Value) (p : α → Bool) (g : Nat) (lb : Array Value) (eg : ∀ args w, (callFunc g args).run Try.prog w = .ok (.enter g args) w) (b off n c : Nat) (zs : List α) (w : World) (hp : PredAt Try.prog g lb enc p w) (hz : n ≤ zs.length) (hbig : n ≤ 9223372036854775807) (hc : ∀ j, j < zs.length → w.cell? ⟨b, off + j, none⟩ = some (enc zs[j]!)) :
    Calls Try.prog 99 #[.slice (some ⟨b, off, none⟩) n c, .func (.func g) #[] lb] w fun e w' => e = .returned (.bool ((zs.take n).any p)) ∧ ∃ q, w' = w.drewN q := AnyE.slices_ContainsFunc Try.laysSlH8_f99 enc p g lb eg b off n c zs w hp hz hbig hc
open Go.RowKit Go.Lib in
/-- The same at a slice of length 0, a nil one too. (LAID AT THE INSTANCE 'slices.ContainsFunc[[]int,int]': no walk: one application.) -/
theorem Try.slices_ContainsFunc_empty {α : Type} [Inhabited α] (a : Option Addr) (c : Nat) (fv : Value) (w : World) :
    Calls Try.prog 99 #[.slice a 0 c, fv] w fun e w' => e = .returned (.bool false) ∧ w' = w := AnyE.slices_ContainsFunc_empty Try.laysSlH8_f99 a c fv w
end Go.Proofs

/- Layer 27: a list of words, sorted, each once. -/
namespace Go.Proofs.Ytbdkoagagcemcaa
open Go.RowKit Go.Sort

def Wo.sort (l : List (List UInt8)) : List (List UInt8) := Lib.compact (l.mergeSort fun x y => decide (x ≤ y))
/-! ### Names rise -/
def Wo.Rises (ns : List (List UInt8)) : Prop := ns.Pairwise (· < ·)
theorem Wo.le_lt {x y z : List UInt8} (h1 : x ≤ y) (h2 : y < z) : x < z := by
  rcases Classical.em (x < z) with h | h
  · exact h
  · have h3 : z ≤ x := List.not_lt.1 h
    exact absurd h2 (List.not_lt.2 (List.le_trans h3 h1))
theorem Wo.lt_of {x y : List UInt8} (h1 : x ≤ y) (h2 : x ≠ y) : x < y := by
  rcases Classical.em (x < y) with h | h
  · exact h
  · exact absurd (List.le_antisymm h1 (List.not_lt.1 h)) h2
theorem Wo.lt_irrefl (x : List UInt8) : ¬ x < x := List.not_lt.2 (List.le_refl x)
theorem Wo.lt_ne {x y : List UInt8} (h : x < y) : x ≠ y := fun e => Wo.lt_irrefl y (e ▸ h)
theorem Wo.lt_le {x y : List UInt8} (h : x < y) : x ≤ y := by
  rcases List.le_total x y with h1 | h1
  · exact h1
  · exact absurd h (List.not_lt.2 h1)
theorem Wo.bang {zs : List (List UInt8)} {j : Nat} (h : j < zs.length) : zs.toArray[j]! = zs[j] := by simp [h]
theorem Wo.compact_mem (zs : List (List UInt8)) (x : List UInt8) : x ∈ Lib.compact zs ↔ x ∈ zs := by
  unfold Lib.compact Lib.compactUpTo
  constructor
  · intro h
    obtain ⟨j, hj, rfl⟩ := List.mem_map.1 h
    have hj2 := List.mem_range.1 (List.mem_filter.1 hj).1
    rw [Wo.bang hj2]
    exact List.getElem_mem hj2
  · intro h
    have key : ∀ j, (hj : j < zs.length) → zs[j] ∈ ((List.range zs.length).filter (Lib.keeps zs.toArray)).map (zs.toArray[·]!) := by
      intro j
      induction j with
      | zero =>
        intro hj
        refine List.mem_map.2 ⟨0, List.mem_filter.2 ⟨List.mem_range.2 hj, by simp [Lib.keeps]⟩, Wo.bang hj⟩
      | succ j ih =>
        intro hj
        by_cases hk : Lib.keeps zs.toArray (j + 1) = true
        · exact List.mem_map.2 ⟨j + 1, List.mem_filter.2 ⟨List.mem_range.2 hj, hk⟩, Wo.bang hj⟩
        · have : zs[j + 1] = zs[j] := by
            unfold Lib.keeps at hk
            rw [decide_eq_true_eq] at hk
            have h2 : zs.toArray[j + 1]! = zs.toArray[j + 1 - 1]! := Classical.byContradiction fun hne => hk (.inr hne)
            rw [Nat.add_sub_cancel, Wo.bang hj, Wo.bang (show j < zs.length by omega)] at h2
            exact h2
          rw [this]
          exact ih (by omega)
    obtain ⟨j, hj, rfl⟩ := List.mem_iff_getElem.1 h
    exact key j hj
theorem Wo.compact_rises {zs : List (List UInt8)} (h : zs.Pairwise (· ≤ ·)) : Wo.Rises (Lib.compact zs) := by
  unfold Wo.Rises Lib.compact Lib.compactUpTo
  rw [List.pairwise_map]
  have h0 : ((List.range zs.length).filter (Lib.keeps zs.toArray)).Pairwise (· < ·) := List.Pairwise.filter _ List.pairwise_lt_range
  refine List.Pairwise.imp_of_mem (R := (· < ·)) ?_ h0
  intro a b ha hb hab
  have ha2 := List.mem_range.1 (List.mem_filter.1 ha).1
  have hb2 := List.mem_range.1 (List.mem_filter.1 hb).1
  have hk := (List.mem_filter.1 hb).2
  unfold Lib.keeps at hk
  rw [decide_eq_true_eq] at hk
  have hne := hk.resolve_left (by omega)
  have le_of : ∀ i j, (hi : i < zs.length) → (hj : j < zs.length) → i ≤ j → zs[i] ≤ zs[j] := fun i j hi hj hij => by
    rcases Nat.lt_or_eq_of_le hij with hlt | rfl
    · exact List.pairwise_iff_getElem.1 h i j hi hj hlt
    · exact List.le_refl _
  have hp : b - 1 < zs.length := by omega
  rw [Wo.bang hb2, Wo.bang hp] at hne
  rw [Wo.bang ha2, Wo.bang hb2]
  exact Wo.le_lt (le_of a (b - 1) ha2 hp (by omega)) (Wo.lt_of (le_of (b - 1) b hp hb2 (by omega)) (Ne.symm hne))
theorem Wo.sorted (l : List (List UInt8)) : (l.mergeSort fun x y => decide (x ≤ y)).Pairwise (· ≤ ·) := by
  have h := List.pairwise_mergeSort (le := fun x y : List UInt8 => decide (x ≤ y)) (fun a b c h1 h2 => by simp only [decide_eq_true_eq] at *; exact List.le_trans h1 h2) (fun a b => by simp only [Bool.or_eq_true, decide_eq_true_eq]; exact List.le_total a b) l
  exact h.imp fun h => by simpa using h
theorem Wo.sort_rises (l : List (List UInt8)) : Wo.Rises (Wo.sort l) := Wo.compact_rises (Wo.sorted l)
theorem Wo.sort_mem (l : List (List UInt8)) (x : List UInt8) : x ∈ Wo.sort l ↔ x ∈ l := by
  unfold Wo.sort
  rw [Wo.compact_mem, List.mem_mergeSort]
theorem Wo.sort_same {ns : List (List UInt8)} (h : Wo.Rises ns) : Wo.sort ns = ns := by
  unfold Wo.sort
  rw [List.mergeSort_of_pairwise (h.imp fun h => by simpa using Wo.lt_le h)]
  refine Lib.compact_all ns fun j hj => ?_
  unfold Lib.keeps
  rw [decide_eq_true_eq]
  by_cases h0 : j = 0
  · exact .inl h0
  · refine .inr ?_
    have hp : j - 1 < ns.length := by omega
    rw [Wo.bang hj, Wo.bang hp]
    exact Ne.symm (Wo.lt_ne (List.pairwise_iff_getElem.1 h (j - 1) j hp hj (by omega)))
/-- Texts that are read, as a source. -/
theorem Txt.src {w : World} {A : Option Addr} {c : Nat} {l : List (List UInt8)} (h : Txt w A c l) : Src Try.prog 1 47 (.slice A l.length c) l.length (sc l) w := by
  by_cases h0 : l.length = 0
  · obtain rfl := List.eq_nil_of_length_eq_zero h0
    cases A with
    | none => exact Src.ofNil w Try.underlying47 c
    | some a => exact Src.ofSlice w Try.underlying47 a 0 c [] rfl (fun j u hu => by simp at hu) (fun u hu => by cases hu)
  · obtain ⟨g, o, rfl, hg, hc⟩ := h.2 (by omega)
    refine Src.ofSlice w Try.underlying47 ⟨g, o, none⟩ _ c (sc l) (by simp [sc]) (fun j u hu => ?_) (fun u hu => ?_)
    · rw [addr_addB]
      simp only [sc, List.getElem?_map, Option.map_eq_some_iff] at hu
      obtain ⟨x, h1, rfl⟩ := hu
      exact hc j x h1
    · simp only [sc, List.mem_map] at hu
      obtain ⟨x, _, rfl⟩ := hu
      rfl
theorem wd_own_zero (w : World) (base : Nat) (e : TypeId) (h : base ≤ w.heap.size) : (w.alloc (.cells #[] e)).ownsRow base e 1 (.slice (some ⟨w.heap.size, 0, none⟩) 0 0) 0 [] :=
  World.ownsRow_lit (base := base) (e := e) (size := 1) w #[] 0 h (by unfold maxLen; omega) rfl

set_option maxHeartbeats 2000000 in
set_option maxRecDepth 100000 in
theorem wdclone_any (A : Option Addr) (c : Nat) (xs : List (List UInt8)) (w : World) (hx : Txt w A c xs) (hn : xs.length ≤ 1000000000000) :
    Calls Try.prog 44 #[.slice A xs.length c] w fun e w' => ∃ v, e = .returned v ∧ TRow w' w.heap.size v xs ∧ Below w.heap.size w w' := by
  obtain ⟨i0, hi, hz0, hz1, hz2⟩ := info_parts infoStr
  have qn : ∀ (w : World) (a : Option Addr) (n c : Nat), (binOp .eql 47 (.slice a n c) (.slice none 0 0)).run Try.prog w = .ok (.bool a.isNone) w := fun w a n c => Lib.run_eql_slice_nil w _ _ a n c 0 0 Try.underlying47
  have HX := Lib.hid hx
  cases A with
  | none =>
    obtain rfl : xs = [] := by
      cases xs with
      | nil => rfl
      | cons x l =>
        obtain ⟨g, o, e, _⟩ := hx.2 (by simp)
        cases e
    clear hx
    go_enter Try.func44, Try.ntmps44
    go_wp2
    go_ret
    exact ⟨_, rfl, TRow.nil _ _, Below.refl _ _⟩
  | some a =>
    clear hx
    have k0 := (Below.refl w.heap.size w).alloc (Nat.le_refl _) (.cells #[] 9)
    have HS := Lib.hid ((HX.out.grow k0).src)
    have K0 := Lib.hid k0
    have HO := Lib.hid (wd_own_zero w w.heap.size 9 (Nat.le_refl _))
    clear k0
    go_enter Try.func44, Try.ntmps44
    go_wp2_with (at_builtin; refine wpList_append_row rfl _ _ 47 47 rfl w.heap.size 9 i0 (.string ⟨#[]⟩) 1 16 Try.underlying47 hi hz0 hz1 hz2 rfl (.slice (some ⟨w.heap.size, 0, none⟩) 0 0) _ _ rfl HO.out _ xs.length (sc xs) rfl ?_ HS.out (by unfold maxLen; omega) (by omega) (by simp))
    intro v' w' h1 h2
    have hR : TRow w' w.heap.size v' xs := h1
    have HR := Lib.hid hR
    have HB := Lib.hid (K0.out.trans (h2.below (B := w.heap.size) (by simp) (fun k e => by simp [Value.ownBlock] at e; omega)))
    clear h1 h2 hR
    go_wp2
    go_ret
    exact ⟨_, rfl, HR.out, HB.out⟩

theorem wd_sort_end {w w1 : World} {g cap nn q : Nat} {os : Array Obj} {ss : List (List UInt8)} (hown : w1.ownsRow w.heap.size 9 1 (.slice (some ⟨g, 0, none⟩) ss.length cap) ss.length (ss.map encStr)) (hbel : Below w.heap.size w w1) (hbg : w.heap.size ≤ g) :
    TRow (putRow encStr (Sort.ahead (grow (putRow encStr (Sort.ahead w1 nn) g 0 (ss.mergeSort fun x y => decide (x ≤ y)).toArray) os) q) g 0 (Lib.compact (ss.mergeSort fun x y => decide (x ≤ y)) ++ List.replicate (ss.length - (Lib.compact (ss.mergeSort fun x y => decide (x ≤ y))).length) []).toArray)
      w.heap.size (.slice (some ⟨g, 0, none⟩) (Wo.sort ss).length cap) (Wo.sort ss) ∧
    Below w.heap.size w (putRow encStr (Sort.ahead (grow (putRow encStr (Sort.ahead w1 nn) g 0 (ss.mergeSort fun x y => decide (x ≤ y)).toArray) os) q) g 0 (Lib.compact (ss.mergeSort fun x y => decide (x ≤ y)) ++ List.replicate (ss.length - (Lib.compact (ss.mergeSort fun x y => decide (x ≤ y))).length) []).toArray) := by
  have hl2 : (ss.mergeSort fun x y => decide (x ≤ y)).length = ss.length := List.length_mergeSort ss
  have hle := Lib.compact_length_le (ss.mergeSort fun x y => decide (x ≤ y))
  rcases hown.2 with ⟨h0, _⟩ | ⟨g', cap', cur, hv, hbase, hb, h1, h2, h3, h4⟩
  · cases h0
  cases hv
  have hs := ownsRow_sorted (n := nn) (os := os) (ts := ss.mergeSort fun x y => decide (x ≤ y)) hl2 hbase hb h1 h2 h3
  have hc := Lib.ownsRow_putRow (q := q) (k := (Lib.compact (ss.mergeSort fun x y => decide (x ≤ y))).length) (ys := Lib.compact (ss.mergeSort fun x y => decide (x ≤ y)) ++ List.replicate (ss.length - (Lib.compact (ss.mergeSort fun x y => decide (x ≤ y))).length) []) hs (by simp; omega) (by omega)
  rw [List.take_left] at hc
  exact ⟨hc, Lib.below_putRow (hbel.grown (grownBy_sorted _) hbel.size (fun j hj => by cases hj; exact hbase)) hbg⟩
theorem wd_slice_nn {o : Option Addr} {n c : Nat} (h : o ≠ none) : (Value.slice o n c) ≠ .slice none 0 0 := fun e => by injection e with e; exact h e

set_option maxHeartbeats 2000000 in
set_option maxRecDepth 100000 in
theorem wdsort_any (A : Option Addr) (c : Nat) (xs : List (List UInt8)) (w : World) (hx : Txt w A c xs) (hn : xs.length ≤ 1000000000000) :
    Calls Try.prog 23 #[.slice A xs.length c] w fun e w' => ∃ v, e = .returned v ∧ TRow w' w.heap.size v (Wo.sort xs) ∧ Below w.heap.size w w' := by
  have HX := Lib.hid hx
  clear hx
  go_enter Try.func23, Try.ntmps23
  go_wp2_with fail
  refine (wdclone_any A c xs w HX.out hn).mono ?_
  rintro e w1 ⟨v1, rfl, hown, hbel⟩
  by_cases hnil : v1 = .slice none 0 0
  · subst hnil
    have hxs : xs = [] := by
      rcases hown.2 with ⟨_, h⟩ | ⟨g, cap, cur, h, _⟩
      · exact List.eq_nil_of_length_eq_zero h
      · cases h
    subst hxs
    have H1 := Lib.hid (fun w => Try.slices_Sort_string_none none 0 w)
    have H2 := Lib.hid (fun w => Try.slices_Compact_string_empty none 0 w)
    have HB := Lib.hid hbel
    clear hown hbel
    go_wp2_with fail
    refine (H1.out w1).mono ?_
    rintro e w2 ⟨rfl, rfl⟩
    go_wp2_with fail
    refine (H2.out w2).mono ?_
    rintro e w3 ⟨rfl, rfl⟩
    go_wp2
    go_ret
    exact ⟨_, rfl, by rw [show Wo.sort [] = [] from by unfold Wo.sort; simp [Lib.compact, Lib.compactUpTo]]; exact TRow.nil _ _, HB.out⟩
  · have hown2 : w1.ownsRow w.heap.size 9 1 v1 xs.length (xs.map encStr) := hown
    obtain ⟨g, cap, rfl, hbg, hgl, hncap, hcm, hlen, hH⟩ := Lib.holds_of_ownsRow hown2 hnil
    have hsort := Lib.hid (Try.slices_Sort_string g 0 cap xs w1 hH hgl (by omega))
    have X := Lib.hid hown2
    have HB := Lib.hid hbel
    have HH := Lib.hid hH
    clear hown hown2 hbel hH hnil
    go_wp2_with fail
    refine hsort.out.mono ?_
    rintro e w2 ⟨rfl, nn, os, hw2⟩
    have hl2 : (xs.mergeSort fun x y => decide (x ≤ y)).length = xs.length := List.length_mergeSort xs
    have hH2 : Holds encStr w2 g 0 (xs.mergeSort fun x y => decide (x ≤ y)).toArray := by
      rw [hw2]
      exact holds_grow encStr _ os g 0 _ (by simpa [putRow, mapBlock, Sort.ahead] using hgl) (holds_putRow encStr _ g 0 _ _ (holds_ahead encStr w1 nn g 0 _ HH.out) (by simp))
    have hcomp := Try.slices_Compact_string g 0 cap (xs.mergeSort fun x y => decide (x ≤ y)) w2 hH2 (by omega) (by omega)
    rw [hl2] at hcomp
    have HC := Lib.hid hcomp
    have HW2 := Lib.hid hw2
    clear hH2 hcomp hw2 hsort
    go_wp2_with fail
    refine HC.out.mono ?_
    rintro e w3 ⟨rfl, q, hw3⟩
    have hE := wd_sort_end (nn := nn) (os := os) (q := q) X.out HB.out hbg
    rw [← HW2.out, ← hw3] at hE
    have HE := Lib.hid hE
    clear hE hw3
    go_wp2
    go_ret
    exact ⟨_, rfl, HE.out.1, HE.out.2⟩

end Go.Proofs.Ytbdkoagagcemcaa

/- Rows of ints that are read, and rows of the call's own. -/
namespace Go.Proofs.Ytbdkoagagcemcaa
open Go.RowKit

def I64 (x : Int) : Prop := -9223372036854775808 ≤ x ∧ x ≤ 9223372036854775807
/-- The cells of a list of numbers. -/
def ic (xs : List Int) : List Value := xs.map (Value.int .i64)
theorem ic_length (xs : List Int) : (ic xs).length = xs.length := List.length_map ..
theorem ic_append (xs ys : List Int) : ic (xs ++ ys) = ic xs ++ ic ys := List.map_append ..
theorem ic_get {xs : List Int} {j : Nat} {x : Int} (h : xs[j]? = some x) : (ic xs)[j]? = some (.int .i64 x) := by simp [ic, h]
theorem infoInt : (Try.prog.info? 3).map (fun i => (i.zero, i.size, i.bytes)) = some (some (.int .i64 0), 1, 8) := by kernel_rfl
/-- A row that reads as these numbers. -/
def Ints (w : World) (A : Option Addr) (c : Nat) (xs : List Int) : Prop :=
  xs.length ≤ c ∧ (0 < xs.length → ∃ g o, A = some ⟨g, o, none⟩ ∧ g < w.heap.size ∧ ∀ (j : Nat) x, xs[j]? = some x → w.cell? ⟨g, o + j, none⟩ = some (.int .i64 x))
theorem Ints.grow {w w' : World} {A : Option Addr} {c : Nat} {xs : List Int} (h : Ints w A c xs) (k : Below w.heap.size w w') : Ints w' A c xs :=
  ⟨h.1, fun hp => by
    obtain ⟨g, o, e, hg, hc⟩ := h.2 hp
    exact ⟨g, o, e, Nat.lt_of_lt_of_le hg k.size, fun j x hx => (World.cell?_of_block (k.block g hg)).trans (hc j x hx)⟩⟩
theorem Ints.nil (w : World) (A : Option Addr) (c : Nat) : Ints w A c [] := ⟨Nat.zero_le _, fun h => by simp at h⟩
/-- The place at i. -/
theorem Ints.at_ {w : World} {A : Option Addr} {c : Nat} {xs : List Int} (h : Ints w A c xs) {i : Nat} (hi : i < xs.length) : ∃ g o x, A = some ⟨g, o, none⟩ ∧ g < w.heap.size ∧ xs[i]? = some x ∧ w.cell? ⟨g, o + i, none⟩ = some (.int .i64 x) := by
  obtain ⟨g, o, e, hg, hc⟩ := h.2 (by omega)
  exact ⟨g, o, _, e, hg, List.getElem?_eq_getElem hi, hc i _ (List.getElem?_eq_getElem hi)⟩
def IRow (w : World) (base : Nat) (v : Value) (xs : List Int) : Prop := w.ownsRow base 3 1 v xs.length (ic xs)
theorem IRow.grow {w w1 : World} {base : Nat} {v : Value} {xs : List Int} (h : IRow w base v xs) (k : Below w.heap.size w w1) : IRow w1 base v xs := own_below h k
theorem IRow.nil (w : World) (base : Nat) : IRow w base (.slice none 0 0) [] := World.ownsRow_nil w base 3 1
theorem IRow.app {w : World} {base : Nat} {v : Value} {xs ys : List Int} {n : Nat} (h : w.ownsRow base 3 1 v n (ic xs ++ ic ys)) (hn : n = xs.length + ys.length) : IRow w base v (xs ++ ys) := by
  unfold IRow
  rw [List.length_append, ic_append, ← hn]
  exact h
theorem IRow.reads {w : World} {base : Nat} {v : Value} {xs : List Int} (h : IRow w base v xs) : ∃ A c, v = .slice A xs.length c ∧ Ints w A c xs := by
  have hc := fun (g : Nat) (hg : v.ownBlock = some g) => World.ownsRow.cells h hg
  rcases h.2 with ⟨rfl, hn⟩ | ⟨g, cap, cur, rfl, h1, h2, h3, _⟩
  · obtain rfl : xs = [] := List.eq_nil_of_length_eq_zero hn
    exact ⟨none, 0, rfl, Ints.nil _ _ _⟩
  · refine ⟨_, cap, rfl, h3, fun _ => ⟨g, 0, rfl, (Array.getElem?_eq_some_iff.1 h2).1, fun j x hx => ?_⟩⟩
    have := hc g rfl j _ (ic_get hx)
    have e : Addr.add ⟨g, 0, none⟩ j = ⟨g, j, none⟩ := by unfold Addr.add; split <;> simp_all
    rw [Nat.zero_add]
    rwa [e] at this
theorem IRow.readsB {w : World} {base : Nat} {v : Value} {xs : List Int} (h : IRow w base v xs) : ∃ A c, v = .slice A xs.length c ∧ Ints w A c xs ∧ ∀ g o, A = some ⟨g, o, none⟩ → base ≤ g := by
  have hb := fun k hk => (World.ownsRow.lt h k hk).1
  obtain ⟨A, c, rfl, hi⟩ := h.reads
  exact ⟨A, c, rfl, hi, fun g o e => by subst e; exact hb g rfl⟩
/-- A row of the call's own lies behind its base: so the blocks ahead of it are as they were. -/
theorem IRow.base_le {w : World} {base : Nat} {v : Value} {xs : List Int} (h : IRow w base v xs) {k : Nat} (hk : v.ownBlock = some k) : base ≤ k := (World.ownsRow.lt h k hk).1
end Go.Proofs.Ytbdkoagagcemcaa
