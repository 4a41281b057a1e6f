/- Joined texts: Grow, Str, Append, Strs, Texts, Ints, Unique, Order, Equal, Index. -/
import Derived.WalkKit
import Derived.WalkSpells
import Derived.WalkLawsBesides
import Derived.BigQuiet
import Derived.Laws.IdiomStrings
import Derived.Deep.AppendSrc
import Derived.Deep.AppendLies
import Derived.Deep.Upon
import Derived.Lib.Join
import Derived.Test.YtibogpidnnodnaaGreatDoorProg
import Derived.Lib.Hide
import Derived.Laws.OwnMore
import Derived.Laws.AppendOwn
import Derived.StillTail
import Derived.OneCell
import Derived.Deep.Cut
import Derived.WalkSmall
import Derived.Deep.QuietTactic
/- Regions that draw their order and whose calls may make memory: one walk in the order of the text, at the class of worlds in which all that stood at the region's head is as it was. No program. -/
namespace Go.Proofs.YtibogpidnnodnaaGreatDoor
open Go.RowKit

/-- A world in which all blocks of 'w' are as they were. -/
def Gr (w : World) : Type := { w' : World // Below w.heap.size w w' }
instance Gr.some (w : World) : Nonempty (Gr w) := ⟨⟨w, Below.refl _ _⟩⟩
@[go_sem] theorem Gr.cell {w : World} (g : Gr w) (b o : Nat) (h : b < w.heap.size) : g.1.cell? ⟨b, o, none⟩ = w.cell? ⟨b, o, none⟩ := g.2.cell (p := ⟨b, o, none⟩) h
@[go_sem] theorem Gr.frozen {w : World} (g : Gr w) (b o : Nat) (h : b < w.heap.size) : g.1.frozen? ⟨b, o, none⟩ = w.frozen? ⟨b, o, none⟩ := g.2.frozen (p := ⟨b, o, none⟩) h
theorem Gr.size {w : World} (g : Gr w) : w.heap.size ≤ g.1.heap.size := g.2.size
theorem Gr.call {P : Program} {f : FuncId} {args : Array Value} {w : World} {g : Gr w} {v : Value}
    (h : Calls P f args g.1 fun e w' => e = .returned v ∧ Below g.1.heap.size g.1 w') :
    Calls P f args g.1 fun e w' => e = .returned v ∧ ∃ k : Gr w, w' = k.1 :=
  h.mono fun _ w' ⟨he, hb⟩ => ⟨he, ⟨w', g.2.trans (hb.mono g.size)⟩, rfl⟩
theorem Gr.same {P : Program} {f : FuncId} {args : Array Value} {w : World} {g : Gr w} {v : Value}
    (h : Calls P f args g.1 fun e w' => e = .returned v ∧ g.1 = w') :
    Calls P f args g.1 fun e w' => e = .returned v ∧ ∃ k : Gr w, w' = k.1 :=
  h.mono fun _ _ ⟨he, hb⟩ => ⟨he, g, hb.symm⟩
theorem Gr.drew {P : Program} {f : FuncId} {args : Array Value} {w : World} {g : Gr w} {v : Value}
    (h : Calls P f args g.1 fun e w' => e = .returned v ∧ ∃ n, w' = g.1.drewN n) :
    Calls P f args g.1 fun e w' => e = .returned v ∧ ∃ k : Gr w, w' = k.1 :=
  h.mono fun _ w' ⟨he, n, hb⟩ => ⟨he, ⟨w', by rw [hb]; exact below_drewN g.2 n⟩, rfl⟩
theorem wp_region_grow {P : Program} {id : Nat} {Q : Exit → Act → World → Prop} {a : Act} {w : World} {l : List Oper} (hm : P.follows .mixedOrders = true) (hB : Region.lexB .any l.toArray = true)
    (h : wpQuiet P l.toArray (fun w' => ∃ g : Gr w, w' = g.1) (fun a' => ∀ g : Gr w, Q .normal a' g.1) l a) : (Code.region id l.toArray true).wp P Q a w := by
  refine wp_region_quiet (C := fun w' => ∃ g : Gr w, w' = g.1) hm hB ⟨⟨w.drew, (Below.refl _ _).drew⟩, rfl⟩ ?_
  have e : (fun a' => ∀ w', (∃ g : Gr w, w' = g.1) → Q .normal a' w') = fun a' => ∀ g : Gr w, Q .normal a' g.1 := by
    funext a'; apply propext; exact ⟨fun H g => H _ ⟨g, rfl⟩, fun H w' ⟨g, hg⟩ => hg ▸ H g⟩
  rw [e]; simpa using h

theorem Below.after {B : Nat} {a w w' : World} (h : Below B a w) (k : Below w.heap.size w w') (hB : B ≤ w.heap.size) : Below B a w' := h.trans (k.mono hB)
theorem Below.after' {B : Nat} {a w w' : World} (h : Below B a w) (k : Below w.heap.size w w') (hB : B ≤ a.heap.size) : Below B a w' := h.trans (k.mono (Nat.le_trans hB h.size))
theorem Below.alloc' {B : Nat} {a w : World} (h : Below B a w) (hB : B ≤ a.heap.size) (o : Obj) : Below B a (w.alloc o) := h.alloc (Nat.le_trans hB h.size) o
/-- A store into the block that was laid behind 'w'. -/
theorem Below.setNew {B : Nat} {a w w1 : World} (h : Below B a w) (hB : B ≤ a.heap.size) (h1 : Below B a w1) (o : Nat) (u : Value) : Below B a (w1.setCell ⟨w.heap.size, o, none⟩ u) := h1.setCell (p := ⟨w.heap.size, o, none⟩) (Nat.le_trans hB h.size) u
theorem ret_int {k : IntKind} {a b : Int} (h : a = b) : Ending.returned (.int k a) = .returned (.int k b) := by rw [h]
theorem ret_bool {a b : Bool} (h : a = b) : Ending.returned (.bool a) = .returned (.bool b) := by rw [h]
theorem bcell {W w1 : World} (hb : Below W.heap.size W w1) : (∀ b o, b < W.heap.size → w1.cell? ⟨b, o, none⟩ = W.cell? ⟨b, o, none⟩) ∧ (∀ b o, b < W.heap.size → w1.frozen? ⟨b, o, none⟩ = W.frozen? ⟨b, o, none⟩) :=
  ⟨fun b o h => hb.cell (p := ⟨b, o, none⟩) h, fun b o h => hb.frozen (p := ⟨b, o, none⟩) h⟩
theorem calls_below {P : Program} {f : FuncId} {args : Array Value} {w : World} {v : Value} (h : Calls P f args w fun e w' => e = .returned v ∧ w = w') :
    Calls P f args w fun e w' => e = .returned v ∧ Below w.heap.size w w' := h.mono fun _ _ ⟨he, hb⟩ => ⟨he, hb ▸ Below.refl _ _⟩
end Go.Proofs.YtibogpidnnodnaaGreatDoor

/- Strings as lists of bytes; conversions. No program. -/
namespace Go.Proofs.YtibogpidnnodnaaGreatDoor
open Go.RowKit

/-- The string of these bytes. -/
def bs (l : List UInt8) : ByteArray := ⟨l.toArray⟩
theorem bs_append (x y : List UInt8) : bs x ++ bs y = bs (x ++ y) := ByteArray.mk_append_mk x y
theorem bs_toList (l : List UInt8) : (bs l).data.toList = l := rfl
theorem bs_list (l : List UInt8) : (bs l).toList = l := by rw [ByteArray.toList_eq]; rfl
theorem bs_beq (x y : List UInt8) : ((bs x).toList == (bs y).toList) = decide (x = y) := by rw [bs_list, bs_list]; by_cases h : x = y <;> simp [h]
theorem bs_of (s : ByteArray) : bs s.data.toList = s := rfl
theorem bs_size (l : List UInt8) : (bs l).size = l.length := by unfold bs ByteArray.size; simp
theorem size_toList (s : ByteArray) : s.data.toList.length = s.size := Array.length_toList
theorem bs_inj {x y : List UInt8} (h : bs x = bs y) : x = y := congrArg (fun s : ByteArray => s.data.toList) h
theorem bs_eq_iff {x y : List UInt8} : bs x = bs y ↔ x = y := ⟨bs_inj, fun h => by rw [h]⟩
theorem toNat_ofNat {n : Nat} (h : n < 256) : (UInt8.ofNat n).toNat = n := by simp; omega
theorem bs_get (l : List UInt8) (i : Nat) (h : i < (bs l).size) : (bs l)[i] = l[i]'(by rwa [bs_size] at h) := by rfl
theorem bs_extract (l : List UInt8) (a b : Nat) : (bs l).extract a b = bs ((l.drop a).take (b - a)) := by
  have h : ((bs l).extract a b).data = (bs l).data.extract a b := ByteArray.data_extract ..
  have e : (bs l).extract a b = ⟨(bs l).data.extract a b⟩ := by rw [← h]
  rw [e]
  unfold bs
  congr 1
  apply Array.ext'
  simp [List.take_drop]

/-- 'string(b)' of a row of the call's own: bytes. -/
theorem run_string_of_row {P : Program} (w : World) (src dst e : TypeId) (base : Nat) (v : Value) (l : List UInt8) (hs : P.underlying src = some (.slice e)) (he : P.underlying e = some (.int .u8)) (hd : P.underlying dst = some .string)
    (h : w.ownsRow base e 1 v l.length (l.map fun b => Value.int .u8 (b.toNat : Int))) : (convert src dst v).run P w = .ok (.string (bs l)) w := by
  have hc := fun (g : Nat) (hg : v.ownBlock = some g) => h.cells hg
  rcases h.2 with ⟨rfl, hn⟩ | ⟨g, cap, cur, rfl, _, _, _⟩
  · have : l = [] := List.eq_nil_of_length_eq_zero hn
    subst this
    exact run_convert_bytes_nil w src e hs he 0 0 dst hd
  · refine run_convert_bytes_back w src dst e _ cap l hs he hd fun j hj => ?_
    exact hc g rfl j _ (by simp [hj])
end Go.Proofs.YtibogpidnnodnaaGreatDoor

/- append onto a row of the call's own, out of whatever source: the row's block, and what else has turned. No program. -/
namespace Go.Proofs.YtibogpidnnodnaaGreatDoor
open Go.RowKit

theorem list_set_take (l vs : List Value) (v : Value) (o : Nat) (h : o + (vs.length + 1) ≤ l.length) :
    (l.set o v).take (o + 1) ++ vs ++ (l.set o v).drop (o + 1 + vs.length) = l.take o ++ (v :: vs) ++ l.drop (o + (vs.length + 1)) := by
  have e1 : (l.set o v).take (o + 1) = l.take o ++ [v] := by
    rw [List.take_succ_eq_append_getElem (by simp; omega)]
    rw [List.take_set, List.set_eq_of_length_le (by simp [Nat.min_le_left])]
    simp
  have e2 : (l.set o v).drop (o + 1 + vs.length) = l.drop (o + (vs.length + 1)) := by
    rw [List.drop_set_of_lt (by omega)]
    congr 1; omega
  rw [e1, e2]
  simp

theorem setCells_eq_setRow (g : Nat) (t : TypeId) (fr : Nat × Nat) : ∀ (vs : List Value) (o : Nat) (w : World) (cur : Array Value), w.heap[g]? = some (.cells cur t fr) → o + vs.length ≤ cur.size →
    w.setCells g o vs = w.setRow g (cur.toList.take o ++ vs ++ cur.toList.drop (o + vs.length)).toArray
  | [], o, w, cur, hg, _ => by
    have e : (cur.toList.take o ++ ([] : List Value) ++ cur.toList.drop (o + ([] : List Value).length)).toArray = cur := by simp
    rw [e, setRow_self w g cur t fr hg]
    rfl
  | v :: vs, o, w, cur, hg, hle => by
    have h1 := setCell_eq_setRow w g o cur t fr v hg
    have hg' : (w.setRow g (cur.setIfInBounds o v)).heap[g]? = some (.cells (cur.setIfInBounds o v) t fr) := setRow_heap w g cur _ t fr hg
    show (w.setCell ⟨g, o, none⟩ v).setCells g (o + 1) vs = _
    rw [h1, setCells_eq_setRow g t fr vs (o + 1) _ _ hg' (by simp at hle ⊢; omega), setRow_setRow]
    congr 2
    have := list_set_take cur.toList vs v o (by simpa using hle)
    simpa using this

/-- Behind one step: only the own row 'o' may have turned; the row is 'o'' now: the same, or a new one. -/
def Hop (w w' : World) (o o' : Option Nat) : Prop := w.grownBy w' o ∧ (o' = o ∨ ∃ g, w.heap.size ≤ g ∧ o' = some g)
theorem Hop.refl (w : World) (o : Option Nat) : Hop w w o o := ⟨World.grownBy.refl w o, .inl rfl⟩
theorem grownBy_trans {w w1 w2 : World} {o o1 : Option Nat} (h : w.grownBy w1 o) (k : w1.grownBy w2 o1) (ho : o1 = o ∨ ∀ g, o1 = some g → w.heap.size ≤ g) : w.grownBy w2 o :=
  ⟨k.os.trans h.os, k.tape.trans h.tape, k.output.trans h.output, Nat.le_trans h.size k.size, fun i hi hne => by
    rw [k.block i (Nat.lt_of_lt_of_le hi h.size) (fun e => by
      rcases ho with ho | ho
      · exact hne (e.trans ho)
      · have := ho i e.symm; omega), h.block i hi hne]⟩
theorem Hop.trans {w w1 w2 : World} {o o1 o2 : Option Nat} (h : Hop w w1 o o1) (k : Hop w1 w2 o1 o2) : Hop w w2 o o2 := by
  refine ⟨grownBy_trans h.1 k.1 ?_, ?_⟩
  · rcases h.2 with h2 | ⟨g, hg, h2⟩
    · exact .inl h2
    · exact .inr fun k hk => by rw [h2] at hk; cases hk; exact hg
  · rcases k.2 with k2 | ⟨g, hg, k2⟩
    · rcases h.2 with h2 | ⟨g', hg', h2⟩
      · exact .inl (k2.trans h2)
      · exact .inr ⟨g', hg', k2.trans h2⟩
    · exact .inr ⟨g, Nat.le_trans h.1.size hg, k2⟩
theorem Hop.grow {w w1 w2 : World} {o o1 : Option Nat} (h : Hop w w1 o o1) (k : Below w1.heap.size w1 w2) : Hop w w2 o o1 :=
  h.trans ⟨⟨k.os, k.tape, k.output, k.size, fun i hi _ => k.block i hi⟩, .inl rfl⟩
theorem grownBy_below {w w1 : World} (k : Below w.heap.size w w1) (o : Option Nat) : w.grownBy w1 o := ⟨k.os, k.tape, k.output, k.size, fun i hi _ => k.block i hi⟩
theorem own_below {w w1 : World} {base : Nat} {e : TypeId} {size : Nat} {v : Value} {n : Nat} {xs : List Value} (h : w.ownsRow base e size v n xs) (k : Below w.heap.size w w1) : w1.ownsRow base e size v n xs :=
  h.kept (grownBy_below k none) (by cases v.ownBlock <;> simp)
/-- Below a base that the own row lies behind, nothing has turned. -/
theorem Hop.below {w w' : World} {o o' : Option Nat} {B : Nat} (h : Hop w w' o o') (hB : B ≤ w.heap.size) (ho : ∀ k, o = some k → B ≤ k) : Below B w w' :=
  (Below.refl B w).grown h.1 hB ho
/-- The own row is not a block of another type. -/
theorem own_ne {w : World} {base : Nat} {e : TypeId} {size : Nat} {v : Value} {n : Nat} {xs : List Value} (h : w.ownsRow base e size v n xs) {L : Nat} {C : Array Value} {t : TypeId} {fr : Nat × Nat}
    (hL : w.heap[L]? = some (.cells C t fr)) (ht : t ≠ e) : some L ≠ v.ownBlock := by
  intro e1
  rcases h.2 with ⟨rfl, _⟩ | ⟨g, cap, cur, rfl, _, hg, _⟩
  · simp [Value.ownBlock] at e1
  · simp [Value.ownBlock] at e1
    subst e1
    rw [hL] at hg
    simp at hg
    exact ht hg.2.1

section
variable {P : Program}
theorem run_append_row (w : World) (t tx ty e : TypeId) (base : Nat) (i : TypeInfo) (z : Value) (size bytes : Nat) (ht : P.underlying t = some (.slice e)) (hi : P.info? e = some i) (hz : i.zero = some z)
    (hsize : i.size = size) (hby : i.bytes = bytes) (hzs : z.cells.size = size)
    (v : Value) (n : Nat) (xs : List Value) (hown : w.ownsRow base e size v n xs) (x : Value) (m : Nat) (news : List Value) (hs : Src P size tx x m news w)
    (h63 : n + m ≤ maxLen) (hbytes : (n + m) * bytes ≤ 140737488355328) (hbase : base ≤ w.heap.size) :
    ∃ v' w', (Builtin.append_ #[t, tx] ty #[v, x]).run P w = .ok v' w' ∧ w'.ownsRow base e size v' (n + m) (xs ++ news) ∧ Hop w w' v.ownBlock v'.ownBlock := by
  subst hsize hby
  have hmax : ((n + m : Nat) : Int) ≤ 9223372036854775807 := by unfold maxLen at h63; omega
  have hlen : (xs ++ news).length = (n + m) * i.size := by rw [List.length_append, hown.1, hs.newsLen, Nat.add_mul]
  -- a new row
  have new : ∀ (old : Nat) (o : Option Nat), old < n + m →
      (w.drew.alloc (.cells ((xs ++ news).toArray ++ Builtin.zeroCells z.cells (grownCap w (n + m) old e - (n + m))) e)).ownsRow base e i.size (.slice (some ⟨w.heap.size, 0, none⟩) (n + m) (grownCap w (n + m) old e)) (n + m) (xs ++ news) ∧
      Hop w (w.drew.alloc (.cells ((xs ++ news).toArray ++ Builtin.zeroCells z.cells (grownCap w (n + m) old e - (n + m))) e)) o (some w.heap.size) := by
    intro old o ho
    refine ⟨⟨hlen, .inr ⟨w.heap.size, _, _, rfl, hbase, heap_alloc_new w.drew _, grownCap_ge w (n + m) old e, grownCap_le_maxLen w (n + m) old e h63, ?_, ?_⟩⟩, ⟨rfl, rfl, rfl, by simp, fun k hk _ => heap_alloc_old w.drew _ hk⟩, .inr ⟨_, Nat.le_refl _, rfl⟩⟩
    · have := grownCap_ge w (n + m) old e
      simp only [Array.size_append, List.size_toArray, size_zeroCells, hzs, hlen, ← Nat.add_mul]
      congr 1
      omega
    · simp only [Array.toList_append]
      rw [← hlen]
      exact List.take_left
  have hfit : ∀ old, old < n + m → Builtin.nextslicecap (n + m) old * i.bytes ≤ 281474976710656 := fun old ho => growslice_fits ho hbytes
  rcases hown.2 with ⟨rfl, rfl⟩ | ⟨g, cap, cur, rfl, hbg, hg, hnc, hcm, hcs, htake⟩
  · have hx : xs = [] := List.eq_nil_of_length_eq_zero (by simpa using hown.1)
    subst hx
    by_cases hm : m = 0
    · subst hm
      have hn : news = [] := List.eq_nil_of_length_eq_zero (by simpa using hs.newsLen)
      subst hn
      exact ⟨_, _, run_append_nothing w t tx ty e i ht hi none 0 0 (Nat.le_refl _) x hs, World.ownsRow_nil w base e i.size, Hop.refl _ _⟩
    · have hr := run_append_grow_src (P := P) w t tx ty e i z ht hi hz none 0 0 [] (run_firstCells_none w.drew i.size 0 0 0) x m news hs (by omega) hmax (by have := hfit 0 (by omega); simpa using this)
      obtain ⟨h1, h2⟩ := new 0 (Value.ownBlock (.slice none 0 0)) (by omega)
      exact ⟨_, _, hr, h1, h2⟩
  · by_cases hroom : n + m ≤ cap
    · have hspan : n * i.size + news.length ≤ cur.size := by
        rw [hs.newsLen, hcs, ← Nat.add_mul]; exact Nat.mul_le_mul_right _ hroom
      have hcell : ∀ j, w.cell? ⟨g, j, none⟩ = cur[j]? := fun j => cell_of_row w g j cur e (0, 0) hg
      have hr := run_append_room_src (P := P) w t tx ty e i ht hi g 0 n cap x m news hs hroom (fun j hj => by rw [hcell]; simp; omega) (fun j hj => by simp [World.frozen?, hg])
      rw [Nat.zero_add, setCells_eq_setRow g e (0, 0) news (n * i.size) w cur hg hspan] at hr
      refine ⟨_, _, hr, ⟨hlen, .inr ⟨g, cap, _, rfl, hbg, setRow_heap w g cur _ e (0, 0) hg, hroom, hcm, ?_, ?_⟩⟩, ⟨rfl, rfl, rfl, by simp, fun k _ hne => setRow_other w g k _ (fun hh => hne (by rw [hh]; rfl))⟩, .inl rfl⟩
      · simp only [List.size_toArray, List.length_append, List.length_take, List.length_drop, Array.length_toList]
        rw [Nat.min_eq_left (by omega)]
        rw [← hcs]; omega
      · rw [htake]
        show (xs ++ news ++ _).take _ = _
        rw [← hlen]
        exact List.take_left
    · have hold : (Builtin.firstCells i.size n (.slice (some ⟨g, 0, none⟩) n cap)).run P w.drew = .ok xs.toArray w.drew := by
        refine run_firstCells_some (P := P) w.drew i.size n ⟨g, 0, none⟩ n cap xs hown.1 fun j u hj => ?_
        have := hown.cells (g := g) rfl j u hj
        simpa using this
      have hr := run_append_grow_src (P := P) w t tx ty e i z ht hi hz (some ⟨g, 0, none⟩) n cap xs hold x m news hs (by omega) hmax (hfit cap (by omega))
      obtain ⟨h1, h2⟩ := new cap (Value.ownBlock (.slice (some ⟨g, 0, none⟩) n cap)) (by omega)
      exact ⟨_, _, hr, h1, h2⟩

/-- At the list of a plain region's operations. -/
theorem wpList_append_row {w : World} {ops : Array Oper} {rest : List Oper} {o : Oper} {a : Act} {Q : Exit → Act → World → Prop} (hgd : o.guard = none) (s x : Operand) (t tx : TypeId)
    (ho : o.op = .call { callee := .builtin .append, args := #[s, x], argTypes := #[t, tx] })
    (base : Nat) (e : TypeId) (i : TypeInfo) (z : Value) (size bytes : Nat) (ht : P.underlying t = some (.slice e)) (hi : P.info? e = some i) (hz : i.zero = some z)
    (hsize : i.size = size) (hby : i.bytes = bytes) (hzs : z.cells.size = size)
    (v : Value) (n : Nat) (xs : List Value) (hv : a.eval s = v) (hown : w.ownsRow base e size v n xs)
    (X : Value) (m : Nat) (news : List Value) (hX : a.eval x = X)
    (h : ∀ v' w', w'.ownsRow base e size v' (n + m) (xs ++ news) → Hop w w' v.ownBlock v'.ownBlock → wpList P ops Q rest (a.put o.dst v') w')
    (hs : Src P size tx X m news w) (h63 : n + m ≤ maxLen) (hbytes : (n + m) * bytes ≤ 140737488355328) (hbase : base ≤ w.heap.size) : wpList P ops Q (o :: rest) a w :=
  wpList_plain hgd fun _ hK => by
    obtain ⟨v', w', hr, h2, h3⟩ := run_append_row w t tx o.type e base i z size bytes ht hi hz hsize hby hzs v n xs hown X m news hs h63 hbytes hbase
    unfold Oper.wp execOp
    simp only [ho, resolve, invoke, builtin, Sem.run_bind, Sem.run_pure, Result.andThen_ok, List.map_toArray, List.map_cons, List.map_nil, hv, hX, hr]
    exact hK _ _ (h v' w' h2 h3)
/-- At a step of a region that draws its order. -/
theorem step_append_row {w : World} {ops : Array Oper} {o : Oper} {a : Act} {K : Act → World → Prop} {Q : Exit → Act → World → Prop} {E : Prop} (hgd : o.guard = none) (s x : Operand) (t tx : TypeId)
    (ho : o.op = .call { callee := .builtin .append, args := #[s, x], argTypes := #[t, tx] })
    (base : Nat) (e : TypeId) (i : TypeInfo) (z : Value) (size bytes : Nat) (ht : P.underlying t = some (.slice e)) (hi : P.info? e = some i) (hz : i.zero = some z)
    (hsize : i.size = size) (hby : i.bytes = bytes) (hzs : z.cells.size = size)
    (v : Value) (n : Nat) (xs : List Value) (hv : a.eval s = v) (hown : w.ownsRow base e size v n xs)
    (X : Value) (m : Nat) (news : List Value) (hX : a.eval x = X)
    (h : ∀ v' w', w'.ownsRow base e size v' (n + m) (xs ++ news) → Hop w w' v.ownBlock v'.ownBlock → K (a.put o.dst v') w')
    (hs : Src P size tx X m news w) (h63 : n + m ≤ maxLen) (hbytes : (n + m) * bytes ≤ 140737488355328) (hbase : base ≤ w.heap.size) :
    if Region.wanted o (yielded ops a.tmps) = true then Oper.wp P o a w K Q else E := by
  have hw : Region.wanted o (yielded ops a.tmps) = true := by simp [Region.wanted, hgd]
  rw [if_pos hw]
  obtain ⟨v', w', hr, h2, h3⟩ := run_append_row w t tx o.type e base i z size bytes ht hi hz hsize hby hzs v n xs hown X m news hs h63 hbytes hbase
  unfold Oper.wp execOp
  simp only [ho, resolve, invoke, builtin, Sem.run_bind, Sem.run_pure, Result.andThen_ok, List.map_toArray, List.map_cons, List.map_nil, hv, hX, hr]
  exact h v' w' h2 h3
end

/-- A row of bytes of the call's own. -/
def cb (l : List UInt8) : List Value := l.map fun b => Value.int .u8 (b.toNat : Int)
theorem cb_length (l : List UInt8) : (cb l).length = l.length := List.length_map ..
theorem cb_append (x y : List UInt8) : cb (x ++ y) = cb x ++ cb y := List.map_append ..
def BRow (w : World) (base : Nat) (e : TypeId) (v : Value) (l : List UInt8) : Prop := w.ownsRow base e 1 v l.length (cb l)
theorem BRow.grow {w w1 : World} {base : Nat} {e : TypeId} {v : Value} {l : List UInt8} (h : BRow w base e v l) (k : Below w.heap.size w w1) : BRow w1 base e v l := own_below h k
theorem BRow.app {w : World} {base : Nat} {e : TypeId} {v : Value} {l m : List UInt8} {n : Nat} (h : w.ownsRow base e 1 v n (cb l ++ cb m)) (hn : n = l.length + m.length) : BRow w base e v (l ++ m) := by
  unfold BRow
  rw [List.length_append, cb_append, ← hn]
  exact h
theorem BRow.nil (w : World) (base : Nat) (e : TypeId) : BRow w base e (.slice none 0 0) [] := World.ownsRow_nil w base e 1
theorem byteCells_bs (l : List UInt8) : byteCells (bs l) = cb l := rfl
theorem BRow.string {P : Program} {w : World} {base : Nat} {v : Value} {l : List UInt8} (src dst e : TypeId) (hs : P.underlying src = some (.slice e)) (he : P.underlying e = some (.int .u8)) (hd : P.underlying dst = some .string)
    (h : BRow w base e v l) : (convert src dst v).run P w = .ok (.string (bs l)) w := run_string_of_row w src dst e base v l hs he hd h
theorem src_string {P : Program} {w : World} {tx : TypeId} (hk : P.underlying tx = some .string) (l : List UInt8) : Src P 1 tx (.string (bs l)) l.length (cb l) w := by
  have := Src.ofString (P := P) w hk (bs l)
  rwa [bs_size] at this
/-- The new block of a literal. -/
theorem src_block {P : Program} {w : World} {tx e' : TypeId} (hk : P.underlying tx = some (.slice e')) (size n c : Nat) (B : Nat) (cs : Array Value) (t : TypeId) (fr : Nat × Nat) (hb : w.heap[B]? = some (.cells cs t fr))
    (hl : cs.size = n * size) (h1 : ∀ u ∈ cs.toList, u.oneCell' = true) : Src P size tx (.slice (some ⟨B, 0, none⟩) n c) n cs.toList w :=
  Src.ofSlice w hk _ n c cs.toList (by simpa using hl) (World.news_of_block hb) h1
end Go.Proofs.YtibogpidnnodnaaGreatDoor

/- Rows of strings, as lists of bytes. No program. -/
namespace Go.Proofs.YtibogpidnnodnaaGreatDoor
open Go.RowKit

/-- The cells of a list of texts. -/
def sc (xs : List (List UInt8)) : List Value := xs.map fun x => Value.string (bs x)
theorem sc_length (xs : List (List UInt8)) : (sc xs).length = xs.length := List.length_map ..
theorem sc_append (xs ys : List (List UInt8)) : sc (xs ++ ys) = sc xs ++ sc ys := List.map_append ..
theorem sc_get {xs : List (List UInt8)} {j : Nat} {x : List UInt8} (h : xs[j]? = some x) : (sc xs)[j]? = some (.string (bs x)) := by simp [sc, h]
def SRow (w : World) (base : Nat) (e : TypeId) (v : Value) (xs : List (List UInt8)) : Prop := w.ownsRow base e 1 v xs.length (sc xs)
theorem SRow.grow {w w1 : World} {base : Nat} {e : TypeId} {v : Value} {xs : List (List UInt8)} (h : SRow w base e v xs) (k : Below w.heap.size w w1) : SRow w1 base e v xs := own_below h k
theorem SRow.app {w : World} {base : Nat} {e : TypeId} {v : Value} {xs ys : List (List UInt8)} {n : Nat} (h : w.ownsRow base e 1 v n (sc xs ++ sc ys)) (hn : n = xs.length + ys.length) : SRow w base e v (xs ++ ys) := by
  unfold SRow
  rw [List.length_append, sc_append, ← hn]
  exact h
theorem SRow.nil (w : World) (base : Nat) (e : TypeId) : SRow w base e (.slice none 0 0) [] := World.ownsRow_nil w base e 1
/-- What a row of texts is: the nil row, or a block with these texts ahead. -/
theorem SRow.cases {w : World} {base : Nat} {e : TypeId} {v : Value} {xs : List (List UInt8)} (h : SRow w base e v xs) :
    (v = .slice none 0 0 ∧ xs = []) ∨ ∃ g cap, v = .slice (some ⟨g, 0, none⟩) xs.length cap ∧ base ≤ g ∧ g < w.heap.size ∧ xs.length ≤ cap ∧ ∀ (j : Nat) x, xs[j]? = some x → w.cell? ⟨g, j, none⟩ = some (.string (bs x)) := by
  have hc := fun (g : Nat) (hg : v.ownBlock = some g) => World.ownsRow.cells h hg
  rcases h.2 with ⟨rfl, hn⟩ | ⟨g, cap, cur, rfl, h1, h2, h3, _⟩
  · exact .inl ⟨rfl, List.eq_nil_of_length_eq_zero hn⟩
  · refine .inr ⟨g, cap, rfl, h1, (Array.getElem?_eq_some_iff.1 h2).1, h3, fun j x hx => ?_⟩
    have := hc g rfl j _ (sc_get hx)
    have e : Addr.add ⟨g, 0, none⟩ j = ⟨g, j, none⟩ := by unfold Addr.add; split <;> simp_all
    rwa [e] at this
end Go.Proofs.YtibogpidnnodnaaGreatDoor

/- Rows of texts: of the call's own, and read. -/
namespace Go.Proofs.YtibogpidnnodnaaGreatDoor
open Go.RowKit

theorem infoStr : (Tryz.prog.info? 9).map (fun i => (i.zero, i.size, i.bytes)) = some (some (.string ⟨#[]⟩), 1, 16) := by kernel_rfl
/-- A row of texts of the call's own. -/
def TRow (w : World) (base : Nat) (v : Value) (xs : List (List UInt8)) : Prop := SRow w base 9 v xs
theorem TRow.grow {w w1 : World} {base : Nat} {v : Value} {xs : List (List UInt8)} (h : TRow w base v xs) (k : Below w.heap.size w w1) : TRow w1 base v xs := SRow.grow h k
theorem TRow.nil (w : World) (base : Nat) : TRow w base (.slice none 0 0) [] := SRow.nil w base 9
theorem TRow.one (w : World) (base : Nat) (h : base ≤ w.heap.size) (x : List UInt8) : TRow (w.alloc (.cells #[.string (bs x)] 9)) base (.slice (some ⟨w.heap.size, 0, none⟩) 1 1) [x] := by
  have := World.ownsRow_lit (base := base) (e := 9) (size := 1) w #[.string (bs x)] 1 h (by unfold maxLen; omega) rfl
  exact this
theorem wpList_appS {w : World} {ops : Array Oper} {rest : List Oper} {o : Oper} {a : Act} {Q : Exit → Act → World → Prop} (hgd : o.guard = none) (s x : Operand)
    (ho : o.op = .call { callee := .builtin .append, args := #[s, x], argTypes := #[22, 22] })
    (base : Nat) (v : Value) (xs : List (List UInt8)) (hv : a.eval s = v) (hown : TRow w base v xs) (B : Nat) (n : List UInt8) (t : TypeId) (fr : Nat × Nat) (hX : a.eval x = .slice (some ⟨B, 0, none⟩) 1 1)
    (hb : w.heap[B]? = some (.cells #[.string (bs n)] t fr)) (hn : xs.length ≤ 1000000000000) (hbase : base ≤ w.heap.size)
    (h : ∀ v' w', TRow w' base v' (xs ++ [n]) → Hop w w' v.ownBlock v'.ownBlock → wpList Tryz.prog ops Q rest (a.put o.dst v') w') : wpList Tryz.prog ops Q (o :: rest) a w := by
  obtain ⟨i0, hi, hz0, hz1, hz2⟩ := info_parts infoStr
  refine wpList_append_row hgd s x 22 22 ho base 9 i0 (.string ⟨#[]⟩) 1 16 Tryz.underlying22 hi hz0 hz1 hz2 rfl v _ _ hv hown _ 1 [.string (bs n)] hX (fun v' w' h1 h2 => h v' w' (SRow.app (ys := [n]) h1 rfl) h2) ?_ ?_ ?_ hbase
  · exact src_block Tryz.underlying22 1 1 1 _ #[.string (bs n)] _ _ hb rfl (by simp [Value.oneCell'])
  · unfold maxLen; omega
  · omega
/-- A row of texts that is read. -/
def Txt (w : World) (A : Option Addr) (c : Nat) (xs : List (List UInt8)) : Prop :=
  xs.length ≤ c ∧ (0 < xs.length → ∃ g o, A = some ⟨g, o, none⟩ ∧ g < w.heap.size ∧ ∀ (j : Nat) x, xs[j]? = some x → w.cell? ⟨g, o + j, none⟩ = some (.string (bs x)))
theorem Txt.grow {w w' : World} {A : Option Addr} {c : Nat} {xs : List (List UInt8)} (h : Txt w A c xs) (k : Below w.heap.size w w') : Txt w' A c xs :=
  ⟨h.1, fun hp => by
    obtain ⟨g, o, e, hg, hc⟩ := h.2 hp
    exact ⟨g, o, e, Nat.lt_of_lt_of_le hg k.size, fun j x hx => (k.cell (p := ⟨g, _, none⟩) hg).trans (hc j x hx)⟩⟩
theorem Txt.nil (w : World) (A : Option Addr) (c : Nat) : Txt w A c [] := ⟨Nat.zero_le _, fun h => by simp at h⟩
theorem Txt.at_ {w : World} {A : Option Addr} {c : Nat} {xs : List (List UInt8)} (h : Txt w A c xs) {i : Nat} (hi : i < xs.length) : ∃ g o x, A = some ⟨g, o, none⟩ ∧ g < w.heap.size ∧ xs[i]? = some x ∧ w.cell? ⟨g, o + i, none⟩ = some (.string (bs x)) := by
  obtain ⟨g, o, e, hg, hc⟩ := h.2 (by omega)
  exact ⟨g, o, _, e, hg, List.getElem?_eq_getElem hi, hc i _ (List.getElem?_eq_getElem hi)⟩
theorem TRow.reads {w : World} {base : Nat} {v : Value} {xs : List (List UInt8)} (h : TRow w base v xs) : ∃ A c, v = .slice A xs.length c ∧ Txt w A c xs := by
  rcases SRow.cases h with ⟨rfl, rfl⟩ | ⟨g, cap, rfl, _, hg, hc, hx⟩
  · exact ⟨none, 0, rfl, Txt.nil _ _ _⟩
  · exact ⟨_, cap, rfl, hc, fun _ => ⟨g, 0, rfl, hg, fun j x hj => by rw [Nat.zero_add]; exact hx j x hj⟩⟩
theorem TRow.kept {w w1 : World} {base : Nat} {v : Value} {xs : List (List UInt8)} {row : Option Nat} (h : TRow w base v xs) (g : w.grownBy w1 row) (hne : ∀ k, v.ownBlock = some k → row ≠ some k) : TRow w1 base v xs :=
  World.ownsRow.kept h g (by
    cases e : v.ownBlock with
    | none => exact .inl rfl
    | some k => exact .inr (fun e2 => hne k e e2.symm))
theorem TRow.cells {w : World} {base : Nat} {v : Value} {xs : List (List UInt8)} (h : TRow w base v xs) {g : Nat} (hg : v.ownBlock = some g) : base ≤ g ∧ ∃ cur, w.heap[g]? = some (.cells cur 9 (0, 0)) := by
  rcases h.2 with ⟨h, _⟩ | ⟨g', cap, cur, h, h1, hg', _⟩
  · rw [h] at hg; simp [Value.ownBlock] at hg
  · rw [h] at hg
    simp [Value.ownBlock] at hg
    subst hg
    exact ⟨h1, cur, hg'⟩
end Go.Proofs.YtibogpidnnodnaaGreatDoor

/- Rows of ints that are read, and rows of the call's own. -/
namespace Go.Proofs.YtibogpidnnodnaaGreatDoor
open Go.RowKit

def I64 (x : Int) : Prop := -9223372036854775808 ≤ x ∧ x ≤ 9223372036854775807
/-- The cells of a list of numbers. -/
def ic (xs : List Int) : List Value := xs.map (Value.int .i64)
theorem ic_length (xs : List Int) : (ic xs).length = xs.length := List.length_map ..
theorem ic_append (xs ys : List Int) : ic (xs ++ ys) = ic xs ++ ic ys := List.map_append ..
theorem ic_get {xs : List Int} {j : Nat} {x : Int} (h : xs[j]? = some x) : (ic xs)[j]? = some (.int .i64 x) := by simp [ic, h]
theorem infoInt : (Tryz.prog.info? 3).map (fun i => (i.zero, i.size, i.bytes)) = some (some (.int .i64 0), 1, 8) := by kernel_rfl
/-- A row that reads as these numbers. -/
def Ints (w : World) (A : Option Addr) (c : Nat) (xs : List Int) : Prop :=
  xs.length ≤ c ∧ (0 < xs.length → ∃ g o, A = some ⟨g, o, none⟩ ∧ g < w.heap.size ∧ ∀ (j : Nat) x, xs[j]? = some x → w.cell? ⟨g, o + j, none⟩ = some (.int .i64 x))
theorem Ints.grow {w w' : World} {A : Option Addr} {c : Nat} {xs : List Int} (h : Ints w A c xs) (k : Below w.heap.size w w') : Ints w' A c xs :=
  ⟨h.1, fun hp => by
    obtain ⟨g, o, e, hg, hc⟩ := h.2 hp
    exact ⟨g, o, e, Nat.lt_of_lt_of_le hg k.size, fun j x hx => (World.cell?_of_block (k.block g hg)).trans (hc j x hx)⟩⟩
theorem Ints.nil (w : World) (A : Option Addr) (c : Nat) : Ints w A c [] := ⟨Nat.zero_le _, fun h => by simp at h⟩
/-- The place at i. -/
theorem Ints.at_ {w : World} {A : Option Addr} {c : Nat} {xs : List Int} (h : Ints w A c xs) {i : Nat} (hi : i < xs.length) : ∃ g o x, A = some ⟨g, o, none⟩ ∧ g < w.heap.size ∧ xs[i]? = some x ∧ w.cell? ⟨g, o + i, none⟩ = some (.int .i64 x) := by
  obtain ⟨g, o, e, hg, hc⟩ := h.2 (by omega)
  exact ⟨g, o, _, e, hg, List.getElem?_eq_getElem hi, hc i _ (List.getElem?_eq_getElem hi)⟩
def IRow (w : World) (base : Nat) (v : Value) (xs : List Int) : Prop := w.ownsRow base 3 1 v xs.length (ic xs)
theorem IRow.grow {w w1 : World} {base : Nat} {v : Value} {xs : List Int} (h : IRow w base v xs) (k : Below w.heap.size w w1) : IRow w1 base v xs := own_below h k
theorem IRow.nil (w : World) (base : Nat) : IRow w base (.slice none 0 0) [] := World.ownsRow_nil w base 3 1
theorem IRow.app {w : World} {base : Nat} {v : Value} {xs ys : List Int} {n : Nat} (h : w.ownsRow base 3 1 v n (ic xs ++ ic ys)) (hn : n = xs.length + ys.length) : IRow w base v (xs ++ ys) := by
  unfold IRow
  rw [List.length_append, ic_append, ← hn]
  exact h
theorem IRow.reads {w : World} {base : Nat} {v : Value} {xs : List Int} (h : IRow w base v xs) : ∃ A c, v = .slice A xs.length c ∧ Ints w A c xs := by
  have hc := fun (g : Nat) (hg : v.ownBlock = some g) => World.ownsRow.cells h hg
  rcases h.2 with ⟨rfl, hn⟩ | ⟨g, cap, cur, rfl, h1, h2, h3, _⟩
  · obtain rfl : xs = [] := List.eq_nil_of_length_eq_zero hn
    exact ⟨none, 0, rfl, Ints.nil _ _ _⟩
  · refine ⟨_, cap, rfl, h3, fun _ => ⟨g, 0, rfl, (Array.getElem?_eq_some_iff.1 h2).1, fun j x hx => ?_⟩⟩
    have := hc g rfl j _ (ic_get hx)
    have e : Addr.add ⟨g, 0, none⟩ j = ⟨g, j, none⟩ := by unfold Addr.add; split <;> simp_all
    rw [Nat.zero_add]
    rwa [e] at this
theorem IRow.readsB {w : World} {base : Nat} {v : Value} {xs : List Int} (h : IRow w base v xs) : ∃ A c, v = .slice A xs.length c ∧ Ints w A c xs ∧ ∀ g o, A = some ⟨g, o, none⟩ → base ≤ g := by
  have hb := fun k hk => (World.ownsRow.lt h k hk).1
  obtain ⟨A, c, rfl, hi⟩ := h.reads
  exact ⟨A, c, rfl, hi, fun g o e => by subst e; exact hb g rfl⟩
/-- A row of the call's own lies behind its base: so the blocks ahead of it are as they were. -/
theorem IRow.base_le {w : World} {base : Nat} {v : Value} {xs : List Int} (h : IRow w base v xs) {k : Nat} (hk : v.ownBlock = some k) : base ≤ k := (World.ownsRow.lt h k hk).1
end Go.Proofs.YtibogpidnnodnaaGreatDoor

/- A call that returns returns one value. No program. -/
namespace Go.Proofs.YtibogpidnnodnaaGreatDoor
open Go.RowKit

/-- A caller behind which nothing goes on. -/
def deadEnd (P : Program) : Frame := { fn := P.funcs.size, tmps := #[], todo := [], defers := [], mode := .returning, kind := .report }
theorem step_deadEnd (P : Program) (w : World) : ∃ o, step P (lone (deadEnd P) [] w) = .ended o w := by
  refine ⟨_, step_lone_ended (o := .stuck "report: Error or String returned no string" "") ?_⟩
  simp [stepG, deadEnd, unwind, doReturn]
theorem runN_ended {P : Program} {m : Machine} {o : Outcome} {w : World} (h : step P m = .ended o w) (d : Nat) (m' : Machine) (h2 : runN P (d + 1) m = .next m') : False := by
  simp [runN, h] at h2
theorem Calls.unique {P : Program} {f : FuncId} {args : Array Value} {w : World} {v1 v2 : Value}
    (h1 : Calls P f args w fun e _ => e = .returned v1) (h2 : Calls P f args w fun e _ => e = .returned v2) : v1 = v2 := by
  obtain ⟨e1, w1, fr1, rfl, c1, _, l1⟩ := h1 [deadEnd P]
  obtain ⟨e2, w2, fr2, rfl, c2, _, l2⟩ := h2 [deadEnd P]
  obtain ⟨n1, r1⟩ := c1
  obtain ⟨n2, r2⟩ := c2
  have key : ∀ {n1 n2 : Nat} {fr1 fr2 : Frame} {w1 w2 : World} {v1 v2 : Value}, runN P n1 (lone (Frame.enter P f args .normal) [deadEnd P] w) = .next (lone fr1 [deadEnd P] w1) →
      runN P n2 (lone (Frame.enter P f args .normal) [deadEnd P] w) = .next (lone fr2 [deadEnd P] w2) → fr1.leaving P w1 (.returned v1) → fr2.leaving P w2 (.returned v2) → n1 ≤ n2 → v1 = v2 := by
    intro n1 n2 fr1 fr2 w1 w2 v1 v2 r1 r2 l1 l2 hle
    obtain ⟨d, rfl⟩ := Nat.exists_eq_add_of_le hle
    rw [runN_add, r1] at r2
    have hs := step_leave_returned (c := deadEnd P) (cs := []) l1
    match d, r2 with
    | 0, r2 =>
      simp [runN, lone] at r2
      obtain ⟨rw2, rf⟩ := r2
      subst rw2 rf
      obtain ⟨_, _, _, fn1, hf1, hr1⟩ := l1
      obtain ⟨_, _, _, fn2, hf2, hr2⟩ := l2
      rw [hf1] at hf2
      cases hf2
      rw [hr1] at hr2
      simp at hr2
      exact hr2
    | 1, r2 =>
      have r3 : runN P (0 + 1) (lone fr1 [deadEnd P] w1) = .next (lone fr2 [deadEnd P] w2) := r2
      simp only [runN, hs, Stepped.next.injEq] at r3
      have r4 := congrArg (fun m : Machine => m.gs) r3
      simp [lone] at r4
    | d + 2, r2 =>
      have hf : (deadEnd P).finish v1 = deadEnd P := rfl
      rw [hf] at hs
      obtain ⟨o, ho⟩ := step_deadEnd P w1
      have r3 : runN P ((d + 1) + 1) (lone fr1 [deadEnd P] w1) = .next (lone fr2 [deadEnd P] w2) := r2
      simp only [runN, hs] at r3
      have r2 : runN P (d + 1) (lone (deadEnd P) [] w1) = .next (lone fr2 [deadEnd P] w2) := r3
      exact (runN_ended ho d _ r2).elim
  rcases Nat.le_total n1 n2 with h | h
  · exact key r1 r2 l1 l2 h
  · exact (key r2 r1 l2 l1 h).symm
end Go.Proofs.YtibogpidnnodnaaGreatDoor

/- Regions that draw their order: operations that only read, calls that may make memory, and operations that lay a fresh block (alloc, buildSlice), in whatever order; then a tail in one forced order. One walk in the order of the text serves every order. No program. -/
namespace Go.Proofs.YtibogpidnnodnaaGreatDoor
open Go.RowKit

/-- What is known of blocks that the region's own operations have laid: by slot. -/
abbrev Env := Nat → Nat → Obj → Prop
def Env.upd (E : Env) (d : Option Nat) (B : Nat) (o : Obj) : Env := fun s C u => E s C u ∨ (d = some s ∧ C = B ∧ u = o)
def Env.only (ops : Array Oper) (o : Oper) (E : Env) : Env := fun s C u => (o.looksAt ops).contains s = true ∧ E s C u
def Env.none : Env := fun _ _ _ => False

/-- All that stood at the region's head is as it was, and the blocks that are known hold what is known. -/
structure Cl (w0 : World) (E : Env) (x : World) : Prop where
  below : Below w0.heap.size w0 x
  fact : ∀ s B o, E s B o → w0.heap.size ≤ B ∧ x.heap[B]? = some o

section
variable {P : Program} {ops : Array Oper} {md : Region.Mode} {Q : Exit → Act → World → Prop} {w0 x y : World} {E F : Env}

theorem Cl.grow (h : Cl w0 E x) (k : Below x.heap.size x y) : Cl w0 E y :=
  ⟨h.below.trans (k.mono h.below.size), fun s B o e => by
    obtain ⟨h1, h2⟩ := h.fact s B o e
    exact ⟨h1, (k.block B (Array.getElem?_eq_some_iff.1 h2).1).trans h2⟩⟩
theorem Cl.sub (h : Cl w0 E x) (hs : ∀ s B o, F s B o → E s B o) : Cl w0 F x := ⟨h.below, fun s B o e => h.fact s B o (hs s B o e)⟩
theorem Cl.only (h : Cl w0 E x) (o : Oper) : Cl w0 (E.only ops o) x := h.sub fun _ _ _ e => e.2
theorem Cl.upd (h : Cl w0 E x) (d : Option Nat) (obj : Obj) : Cl w0 (E.upd d x.heap.size obj) (x.alloc obj) := by
  have hg := h.grow (y := x.alloc obj) ((Below.refl _ _).alloc (Nat.le_refl _) _)
  refine ⟨hg.below, fun s B o e => ?_⟩
  rcases e with e | ⟨_, rfl, rfl⟩
  · exact hg.fact s B o e
  · exact ⟨h.below.size, heap_alloc_new x _⟩

/-- The value of an operation that lays block number B. -/
def blkVal (o : Oper) (B : Nat) : Value := match o.op with | .buildSlice _ n _ => .slice (some ⟨B, 0, none⟩) n n | _ => .pointer (some ⟨B, 0, none⟩)
/-- What an operation comes to: one value; or a fresh block that holds this. -/
abbrev Kind := Value ⊕ Obj
def Kind.res (o : Oper) (k : Kind) (B : Nat) : Value := match k with | .inl v => v | .inr _ => blkVal o B
def Kind.env (o : Oper) (k : Kind) (B : Nat) (E : Env) : Env := match k with | .inl _ => E | .inr obj => E.upd o.dst B obj

def Runs (P : Program) (ops : Array Oper) (w0 : World) (F : Env) (o : Oper) (a : Act) : Kind → Prop
  | .inl v => (Region.wanted o (yielded ops a.tmps) = true ∧ ∀ x, Cl w0 F x → o.quietAt P a (fun y => Below x.heap.size x y) x v) ∨ (Region.wanted o (yielded ops a.tmps) = false ∧ v = undef)
  | .inr obj => Region.wanted o (yielded ops a.tmps) = true ∧ ∀ x, Cl w0 F x → (execOp a.eval o).run P x = .ok (.value (blkVal o x.heap.size)) (x.alloc obj)

theorem alloc_ne (x : World) (o : Obj) : x.alloc o ≠ x := fun h => by
  have := congrArg (fun w : World => w.heap.size) h
  simp at this
theorem alloc_inj {x : World} {o1 o2 : Obj} (h : x.alloc o1 = x.alloc o2) : o1 = o2 := by
  have h1 := heap_alloc_new x o1
  rw [h, heap_alloc_new x o2] at h1
  exact (Option.some.inj h1).symm

theorem quietUpon_det {C D : World → Prop} {v u : Value} {r : Result Next} (h1 : Oper.quietUpon P C x v r) (h2 : Oper.quietUpon P D x u r) : v = u := by
  cases r with
  | ok n w' =>
    cases n <;> simp only [Oper.quietUpon] at h1 h2
    case value => rw [← h1.2, ← h2.2]
    case skip => rw [h1.2, h2.2]
    case enter f args =>
      obtain ⟨rfl, c1⟩ := h1
      exact Calls.unique (c1.mono fun _ _ h => h.1) (h2.2.mono fun _ _ h => h.1)
  | halt => simp only [Oper.quietUpon] at h1

theorem Runs.det {o : Oper} {a : Act} : ∀ {k1 k2 : Kind}, Runs P ops w0 F o a k1 → Runs P ops w0 F o a k2 → Cl w0 F x → k1 = k2
  | .inl v, .inl u, h1, h2, hx => by
    rcases h1 with ⟨w1, h1⟩ | ⟨w1, h1⟩ <;> rcases h2 with ⟨w2, h2⟩ | ⟨w2, h2⟩
    · exact congrArg _ (quietUpon_det (h1 x hx) (h2 x hx))
    · rw [w1] at w2; cases w2
    · rw [w1] at w2; cases w2
    · rw [h1, h2]
  | .inl v, .inr o2, h1, h2, hx => by
    rcases h1 with ⟨w1, h1⟩ | ⟨w1, h1⟩
    · have := h1 x hx
      unfold Oper.quietAt at this
      rw [h2.2 x hx] at this
      exact absurd this.1 (alloc_ne x o2)
    · have := h2.1; rw [w1] at this; cases this
  | .inr o1, .inl u, h1, h2, hx => by
    rcases h2 with ⟨w2, h2⟩ | ⟨w2, h2⟩
    · have := h2 x hx
      unfold Oper.quietAt at this
      rw [h1.2 x hx] at this
      exact absurd this.1 (alloc_ne x o1)
    · have := h1.1; rw [w2] at this; cases this
  | .inr o1, .inr o2, h1, h2, hx => by
    have := (h1.2 x hx).symm.trans (h2.2 x hx)
    simp only [Result.ok.injEq] at this
    exact congrArg _ (alloc_inj this.2)

theorem Runs.put {o : Oper} {a : Act} {dst : Option Tmp} {u : Value} (hs : ∀ cs b, o.op ≠ .select cs b) (h : ∀ d, dst = some d → d ∉ o.looksAt ops) (k : Kind) : Runs P ops w0 F o (a.put dst u) k ↔ Runs P ops w0 F o a k := by
  cases k <;> simp only [Runs, Oper.quietAt, execOp_put o hs a dst u h, wanted_put o a dst u h]
theorem Env.only_env {oi oj : Oper} (k : Kind) (B : Nat) (h : ∀ d, oi.dst = some d → d ∉ oj.looksAt ops) : (k.env oi B E).only ops oj = E.only ops oj := by
  cases k with
  | inl v => rfl
  | inr obj =>
    funext s C u
    apply propext
    exact ⟨fun ⟨h1, h2⟩ => ⟨h1, h2.resolve_right fun h3 => h s h3.1 (by simpa using h1)⟩, fun ⟨h1, h2⟩ => ⟨h1, .inl h2⟩⟩
theorem Kind.env_comm {oi oj : Oper} (ki kj : Kind) (Bi Bj : Nat) : ki.env oi Bi (kj.env oj Bj E) = kj.env oj Bj (ki.env oi Bi E) := by
  cases ki with
  | inl _ => rfl
  | inr obi =>
    cases kj with
    | inl _ => rfl
    | inr obj =>
      funext s C u
      apply propext
      exact ⟨fun h => by rcases h with (h | h) | h <;> simp [Kind.env, Env.upd, h], fun h => by rcases h with (h | h) | h <;> simp [Kind.env, Env.upd, h]⟩
theorem Kind.env_le (o : Oper) (k : Kind) (B : Nat) (s C : Nat) (u : Obj) (h : E s C u) : k.env o B E s C u := by
  cases k with
  | inl _ => exact h
  | inr _ => exact .inl h

theorem Runs.wpOp {i : Nat} {o : Oper} {a : Act} {k : Kind} (hi : ops[i]? = some o) (h : Runs P ops w0 (E.only ops o) o a k) (hx : Cl w0 E x) {K : Act → World → Prop}
    (hK : ∀ B y, w0.heap.size ≤ B → Cl w0 (k.env o B E) y → K (a.put o.dst (k.res o B)) y) : Go.wpOp P ops Q i K a x := by
  unfold Go.wpOp
  simp only [hi]
  cases k with
  | inl v =>
    have hK' := fun y hy => hK w0.heap.size y (Nat.le_refl _) hy
    rcases h with ⟨hw, hv⟩ | ⟨hw, rfl⟩
    · rw [if_pos hw]
      refine .inl ?_
      have h3 := hv x (hx.only o)
      unfold Oper.quietAt at h3
      unfold Oper.wp
      generalize (execOp a.eval o).run P x = r at *
      cases r with
      | ok n w' =>
        cases n <;> simp only [Oper.quietUpon] at h3 <;> simp only [Oper.upon]
        case value u => obtain ⟨rfl, rfl⟩ := h3; exact hK' _ hx
        case skip => obtain ⟨rfl, rfl⟩ := h3; exact hK' _ hx
        case enter f args =>
          obtain ⟨rfl, hc⟩ := h3
          exact hc.mono fun e w'' ⟨he, hw''⟩ => by subst he; exact hK' _ (hx.grow hw'')
      | halt => simp only [Oper.quietUpon] at h3
    · rw [if_neg (by rw [hw]; decide)]
      exact hK' x hx
  | inr obj =>
    rw [if_pos h.1]
    refine .inl ?_
    unfold Oper.wp
    rw [h.2 x (hx.only o)]
    exact hK x.heap.size _ hx.below.size (hx.upd o.dst obj)

/-- An operation that asks nothing of the world. -/
def lateB (o : Oper) : Bool := match o.op with | .extract _ _ => true | .move _ => true | _ => false
theorem late_run (o : Oper) (h : lateB o = true) (ρ : Operand → Value) : (∃ v, ∀ x, (execOp ρ o).run P x = .ok (.value v) x) ∨ (∀ x, ∃ hh, (execOp ρ o).run P x = .halt hh x) := by
  unfold lateB at h
  split at h
  · rename_i t i ho
    unfold execOp
    rw [ho]
    simp only [Instr.extract]
    split
    · split
      · exact .inl ⟨_, fun x => rfl⟩
      · exact .inr fun x => ⟨_, rfl⟩
    · exact .inr fun x => ⟨_, rfl⟩
  · rename_i t ho
    refine .inl ⟨ρ t, fun x => ?_⟩
    unfold execOp; rw [ho]; rfl
  · cases h
theorem late_yields {o : Oper} {a : Act} {k : Kind} (h : lateB o = true) (hr : Runs P ops w0 F o a k) (hx : Cl w0 F x) : ∃ v, k = .inl v ∧ Yields P ops o v a := by
  cases k with
  | inl v =>
    refine ⟨v, rfl, ?_⟩
    rcases hr with ⟨hw, hv⟩ | hr
    · refine .inl ⟨hw, ?_⟩
      have := hv x hx
      unfold Oper.quietAt at this
      rcases late_run (P := P) o h a.eval with ⟨u, hu⟩ | hu
      · rw [hu x] at this
        simp only [Oper.quietUpon] at this
        rw [← this.2]
        exact hu
      · obtain ⟨hh, e⟩ := hu x
        rw [e] at this
        simp only [Oper.quietUpon] at this
    · exact .inr hr
  | inr obj =>
    have := hr.2 x hx
    rcases late_run (P := P) o h a.eval with ⟨u, hu⟩ | hu
    · rw [hu x] at this
      simp only [Result.ok.injEq] at this
      exact absurd this.2.symm (alloc_ne x obj)
    · obtain ⟨hh, e⟩ := hu x
      rw [e] at this
      cases this

/-- Whatever order is picked while operations of the head (the first n) are to come; 'g': how many there are behind the head. -/
def AO (P : Program) (md : Region.Mode) (ops : Array Oper) (Q : Exit → Act → World → Prop) (w0 : World) (n g : Nat) : Nat → Array Bool → Env → Act → Prop
  | 0, listed, E, a => ∀ w, Cl w0 E w → (∀ j ∈ Region.ready md ops listed, n ≤ j) ∧ wpAny P md ops Q g listed a w
  | f + 1, listed, E, a => ∀ w, Cl w0 E w → Region.ready md ops listed ≠ [] ∧
      (∀ j ∈ Region.ready md ops listed, j < n → ∃ o k, ops[j]? = some o ∧ Runs P ops w0 (E.only ops o) o a k ∧
        ∀ B, w0.heap.size ≤ B → AO P md ops Q w0 n g f (listed.setIfInBounds j true) (k.env o B E) (a.put o.dst (k.res o B))) ∧
      ((∃ j ∈ Region.ready md ops listed, n ≤ j) → wpAny P md ops Q (f + 1 + g) listed a w)

theorem AO.any {n g : Nat} : ∀ (f : Nat) (listed : Array Bool) (E : Env) (a : Act) (w : World), AO P md ops Q w0 n g f listed E a → Cl w0 E w → wpAny P md ops Q (f + g) listed a w
  | 0, listed, E, a, w, h, hw => by rw [Nat.zero_add]; exact (h w hw).2
  | f + 1, listed, E, a, w, h, hw => by
    obtain ⟨hne, hA, hB⟩ := h w hw
    by_cases ht : ∃ j ∈ Region.ready md ops listed, n ≤ j
    · exact hB ht
    · have e : f + 1 + g = (f + g) + 1 := by omega
      rw [e]
      refine ⟨fun h0 => absurd h0 hne, fun j hj => ?_⟩
      have hjn : j < n := Nat.lt_of_not_le fun hh => ht ⟨j, hj, hh⟩
      obtain ⟨o, k, ho, hr, hk⟩ := hA j hj hjn
      exact hr.wpOp ho hw fun B y hB hy => AO.any f _ _ _ y (hk B hB) hy

/-- What has come up has had all that it waits for. -/
def Closed (md : Region.Mode) (ops : Array Oper) (listed : Array Bool) : Prop :=
  ∀ (j : Nat) oj, ops[j]? = some oj → listed.getD j false = true → ∀ e ∈ oj.after, Region.binds md e = true → listed.getD e.on false = true
theorem getD_set_true {listed : Array Bool} {i : Nat} (h : i < listed.size) (d : Bool) : (listed.setIfInBounds i true).getD i d = true := by
  simp [Array.getD, h]
theorem getD_set_mono {listed : Array Bool} {i j : Nat} (h : listed.getD j false = true) : (listed.setIfInBounds i true).getD j false = true := by
  by_cases e : i = j
  · subst e
    by_cases hs : i < listed.size
    · exact getD_set_true hs false
    · rw [Array.setIfInBounds_eq_of_size_le (by omega)]; exact h
  · rw [getD_set_ne false e]; exact h
theorem Closed.set {listed : Array Bool} {i : Nat} (h : Closed md ops listed) (hr : i ∈ Region.ready md ops listed) : Closed md ops (listed.setIfInBounds i true) := by
  intro j oj hoj hl e he hb
  obtain ⟨_, o, ho, hall⟩ := mem_ready.1 hr
  by_cases eij : i = j
  · subst eij
    rw [hoj] at ho
    cases ho
    exact getD_set_mono (hall e he hb)
  · rw [getD_set_ne false eij] at hl
    exact getD_set_mono (h j oj hoj hl e he hb)
theorem Closed.none (n : Nat) : Closed md ops (Array.replicate n false) := by
  intro j oj _ hl
  exfalso
  simp [Array.getD] at hl
/-- t waits for i, itself or through others. -/
def waitsT (md : Region.Mode) (ops : Array Oper) : Nat → Nat → Nat → Bool
  | 0, t, i => Region.waitsFor md ops t i
  | f + 1, t, i => Region.waitsFor md ops t i || (match ops[t]? with | some ot => ot.after.any fun e => Region.binds md e && waitsT md ops f e.on i | none => false)
theorem waitsT_listed {listed : Array Bool} (hc : Closed md ops listed) {i : Nat} : ∀ (f t : Nat), waitsT md ops f t i = true → (∀ ot, ops[t]? = some ot → ∀ e ∈ ot.after, Region.binds md e = true → listed.getD e.on false = true) → listed.getD i false = true
  | 0, t, h, ha => by
    obtain ⟨ot, hot, e, he, hb, hon⟩ := Region.waitsFor_spec h
    rw [← hon]; exact ha ot hot e he hb
  | f + 1, t, h, ha => by
    unfold waitsT at h
    rw [Bool.or_eq_true] at h
    rcases h with h | h
    · obtain ⟨ot, hot, e, he, hb, hon⟩ := Region.waitsFor_spec h
      rw [← hon]; exact ha ot hot e he hb
    · split at h
      · rename_i ot hot
        obtain ⟨e, he, hb⟩ := Array.any_eq_true'.1 h
        rw [Bool.and_eq_true] at hb
        have hl := ha ot hot e he hb.1
        exact waitsT_listed hc f e.on hb.2 fun oj hoj e' he' hb' => hc e.on oj hoj hl e' he' hb'
      · cases h

/-- An operation of the head that may come up may be taken first. -/
theorem AO.first {n g i : Nat} {oi : Oper} {ki : Kind} (hi : ops[i]? = some oi) (hin : i < n) (hsel : ∀ (j : Nat) (o : Oper) cs b, ops[j]? = some o → o.op ≠ .select cs b)
    (hQ : ∀ c a v w, Q (.panic c) (a.put oi.dst v) w → Q (.panic c) a w)
    (hlate : ∀ (t : Nat) (ot : Oper), n ≤ t → ops[t]? = some ot → (∃ f, waitsT md ops f t i = true) ∨ lateB oi = true) (f : Nat) :
    ∀ (listed : Array Bool) (E : Env) (a : Act), Closed md ops listed →
      (∀ j oj, ops[j]? = some oj → j ≠ i → listed.getD j true = false → (∀ e ∈ oj.after, Region.binds md e = true → e.on ≠ i) → oi.apart ops oj = true) →
      i ∈ Region.ready md ops listed → Runs P ops w0 (E.only ops oi) oi a ki →
      (∀ B, w0.heap.size ≤ B → AO P md ops Q w0 n g f (listed.setIfInBounds i true) (ki.env oi B E) (a.put oi.dst (ki.res oi B))) → AO P md ops Q w0 n g (f + 1) listed E a := by
  -- at a tail's operation that comes up while this one is to come: this one asks nothing of the world
  have tail : ∀ (f : Nat) (listed : Array Bool) (E : Env) (a : Act) (w : World), Closed md ops listed → Cl w0 E w →
      (∀ j oj, ops[j]? = some oj → j ≠ i → listed.getD j true = false → (∀ e ∈ oj.after, Region.binds md e = true → e.on ≠ i) → oi.apart ops oj = true) →
      i ∈ Region.ready md ops listed → Runs P ops w0 (E.only ops oi) oi a ki →
      (∀ B, w0.heap.size ≤ B → AO P md ops Q w0 n g f (listed.setIfInBounds i true) (ki.env oi B E) (a.put oi.dst (ki.res oi B))) →
      (∃ j ∈ Region.ready md ops listed, n ≤ j) → wpAny P md ops Q (f + 1 + g) listed a w := by
    intro f listed E a w hcl hw hfree hr hy H ht
    obtain ⟨t, htr, htn⟩ := ht
    obtain ⟨_, ot, hot, hall⟩ := mem_ready.1 htr
    have hla : lateB oi = true := by
      rcases hlate t ot htn hot with ⟨f, hf⟩ | h
      · have h1 := waitsT_listed hcl f t hf fun ot' hot' => by
          rw [hot] at hot'; cases hot'; exact hall
        rw [getD_both (mem_ready.1 hr).1] at h1
        cases h1
      · exact h
    obtain ⟨v, rfl, hyl⟩ := late_yields hla hy (hw.only oi)
    have h1 := AO.any f _ _ _ w (H w0.heap.size (Nat.le_refl _)) hw
    have e : f + 1 + g = (f + g) + 1 := by omega
    rw [e]
    exact wpAny_first hi hsel (fun c a w => hQ c a v w) (f + g) listed a w hfree hr hyl h1
  induction f with
  | zero =>
    intro listed E a hcl hfree hr hy H w hw
    refine ⟨fun h => (by rw [h] at hr; cases hr), fun j hj hjn => ?_, tail 0 listed E a w hcl hw hfree hr hy H⟩
    by_cases hji : j = i
    · subst hji
      exact ⟨oi, ki, hi, hy, H⟩
    · -- no other operation of the head is left
      exfalso
      have hx : ∃ B w', w0.heap.size ≤ B ∧ Cl w0 (ki.env oi B E) w' := by
        cases ki with
        | inl v => exact ⟨w0.heap.size, w, Nat.le_refl _, hw⟩
        | inr obj => exact ⟨w.heap.size, _, hw.below.size, hw.upd oi.dst obj⟩
      obtain ⟨B, w', hB, hw'⟩ := hx
      have := (H B hB w' hw').1 j (ready_mono hj hji)
      omega
  | succ f ih =>
    intro listed E a hcl0 hfree hr hy H w hw
    refine ⟨fun h => (by rw [h] at hr; cases hr), fun j hj hjn => ?_, tail (f + 1) listed E a w hcl0 hw hfree hr hy H⟩
    by_cases hji : j = i
    · subst hji
      exact ⟨oi, ki, hi, hy, H⟩
    · have hx : ∃ B w', w0.heap.size ≤ B ∧ Cl w0 (ki.env oi B E) w' := by
        cases ki with
        | inl v => exact ⟨w0.heap.size, w, Nat.le_refl _, hw⟩
        | inr obj => exact ⟨w.heap.size, _, hw.below.size, hw.upd oi.dst obj⟩
      obtain ⟨B0, w1, hB0, hw1⟩ := hx
      obtain ⟨hjun, oj, hoj, hall⟩ := mem_ready.1 hj
      have hap : oi.apart ops oj = true := hfree j oj hoj hji hjun fun e he hb heq => by
        have h1 := hall e he hb
        rw [heq, getD_both (mem_ready.1 hr).1] at h1
        cases h1
      obtain ⟨ap1, ap2, ap3⟩ := Oper.apart_spec hap
      have hj' := ready_mono hj hji
      obtain ⟨oj', kj, hoj', hrj, _⟩ := (H B0 hB0 w1 hw1).2.1 j hj' hjn
      rw [hoj] at hoj'
      cases hoj'
      rw [Env.only_env ki B0 ap1, Runs.put (hsel j oj · · hoj) ap1] at hrj
      refine ⟨oj, kj, hoj, hrj, fun Bj hBj => ?_⟩
      refine ih (listed.setIfInBounds j true) (kj.env oj Bj E) (a.put oj.dst (kj.res oj Bj)) (hcl0.set hj) (fun k ok hk hki hkun hno => ?_) (ready_mono hr (Ne.symm hji)) ?_ fun Bi hBi => ?_
      · refine hfree k ok hk hki ?_ hno
        by_cases hjk : j = k
        · subst hjk
          exact hjun
        · rwa [getD_set_ne true hjk] at hkun
      · rw [Env.only_env kj Bj ap3, Runs.put (hsel i oi · · hi) ap3]
        exact hy
      · -- from what is known behind 'i', at any world of the class
        have big : ∀ w', Cl w0 (ki.env oi Bi E) w' → AO P md ops Q w0 n g f ((listed.setIfInBounds i true).setIfInBounds j true) (kj.env oj Bj (ki.env oi Bi E)) ((a.put oi.dst (ki.res oi Bi)).put oj.dst (kj.res oj Bj)) := by
          intro w' hw'
          obtain ⟨oj', kj', hoj', hrj', hk'⟩ := (H Bi hBi w' hw').2.1 j hj' hjn
          rw [hoj] at hoj'
          cases hoj'
          rw [Env.only_env ki Bi ap1, Runs.put (hsel j oj · · hoj) ap1] at hrj'
          have hcl : Cl w0 (E.only ops oj) w' := by
            have := hw'.only (ops := ops) oj
            rwa [Env.only_env ki Bi ap1] at this
          have hkk : kj' = kj := Runs.det hrj' hrj hcl
          subst hkk
          exact hk' Bj hBj
        have conv : AO P md ops Q w0 n g f ((listed.setIfInBounds j true).setIfInBounds i true) (ki.env oi Bi (kj.env oj Bj E)) ((a.put oj.dst (kj.res oj Bj)).put oi.dst (ki.res oi Bi)) ↔
            AO P md ops Q w0 n g f ((listed.setIfInBounds i true).setIfInBounds j true) (kj.env oj Bj (ki.env oi Bi E)) ((a.put oi.dst (ki.res oi Bi)).put oj.dst (kj.res oj Bj)) := by
          rw [Kind.env_comm ki kj Bi Bj, Array.setIfInBounds_comm _ _ (fun e => hji e), ← Act.put_comm a _ _ ap2]
        rw [conv]
        -- the statement asks for every world of the class: take that world
        have sub : ∀ w', Cl w0 (kj.env oj Bj (ki.env oi Bi E)) w' → Cl w0 (ki.env oi Bi E) w' := fun w' hw' => hw'.sub fun s C u hs => Kind.env_le oj kj Bj s C u hs
        cases f with
        | zero => exact fun w' hw' => big w' (sub w' hw') w' hw'
        | succ f => exact fun w' hw' => big w' (sub w' hw') w' hw'

/-! ### The order of the text -/
/-- The first n operations in the order of the text (each may come up then, and nobody that is to come touches what it reads or writes), then the others in one forced order; those wait for every one of the first that asks something of the world. -/
def ordHead (md : Region.Mode) (ops : Array Oper) (g : Nat) : Nat → Nat → Array Bool → Bool
  | 0, k, listed => Region.seqB md ops g k listed && (Region.ready md ops listed).all fun j => decide (k ≤ j)
  | f + 1, k, listed => (Region.ready md ops listed).contains k && Region.free md ops listed k && ordHead md ops g f (k + 1) (listed.setIfInBounds k true)
def ordLate (md : Region.Mode) (ops : Array Oper) (n : Nat) : Bool :=
  (List.range n).all fun i => (match ops[i]? with | some oi => lateB oi | none => false) || (List.range ops.size).all fun t => decide (t < n) || waitsT md ops 5 t i
def ordB (md : Region.Mode) (ops : Array Oper) (n : Nat) : Bool :=
  Region.noSelect ops && decide (n ≤ ops.size) && ordLate md ops n && ordHead md ops (ops.size - n) n 0 (Array.replicate ops.size false)
theorem ordLate_spec {n : Nat} (h : ordLate md ops n = true) {i : Nat} (hi : i < n) {oi : Oper} (hoi : ops[i]? = some oi) (t : Nat) (ot : Oper) (ht : n ≤ t) (hot : ops[t]? = some ot) :
    (∃ f, waitsT md ops f t i = true) ∨ lateB oi = true := by
  have h1 := List.all_eq_true.1 h i (List.mem_range.2 hi)
  simp only [hoi, Bool.or_eq_true] at h1
  rcases h1 with h1 | h1
  · exact .inr h1
  · have h2 := List.all_eq_true.1 h1 t (List.mem_range.2 (Array.getElem?_eq_some_iff.1 hot).1)
    simp only [Bool.or_eq_true, decide_eq_true_eq] at h2
    rcases h2 with h2 | h2
    · omega
    · exact .inl ⟨5, h2⟩

def wpLex (P : Program) (ops : Array Oper) (Q : Exit → Act → World → Prop) (w0 : World) (tail : List Oper) : List Oper → Env → Act → Prop
  | [], E, a => ∀ x, Cl w0 E x → wpList P ops Q tail a x
  | o :: rest, E, a => (∃ x, Cl w0 E x) → ∃ k, Runs P ops w0 (E.only ops o) o a k ∧ ∀ B, w0.heap.size ≤ B → wpLex P ops Q w0 tail rest (k.env o B E) (a.put o.dst (k.res o B))

theorem AO.lex {n g : Nat} {tail : List Oper} (hsel : Region.noSelect ops = true) (hQ : ∀ c a d v w, Q (.panic c) (a.put d v) w → Q (.panic c) a w) (hl : ordLate md ops n = true) (htail : ∀ j, tail[j]? = ops[n + j]?) (hg : tail.length = g) :
    ∀ (l : List Oper) (k : Nat) (listed : Array Bool) (E : Env) (a : Act), Closed md ops listed → (∀ j, j < l.length → l[j]? = ops[k + j]?) → k + l.length = n → ordHead md ops g l.length k listed = true →
    wpLex P ops Q w0 tail l E a → AO P md ops Q w0 n g l.length listed E a
  | [], k, listed, E, a, _, _, hk, hB, h => by
    have hkn : k = n := by simpa using hk
    subst hkn
    simp only [List.length_nil, ordHead, Bool.and_eq_true] at hB
    refine fun w hw => ⟨fun j hj => by simpa using List.all_eq_true.1 hB.2 j hj, ?_⟩
    subst hg
    exact wpAny_of_seq tail k listed a w htail hB.1 (h w hw)
  | o :: l, k, listed, E, a, hcl, hll, hk, hB, h => by
    simp only [List.length_cons] at hk
    simp only [List.length_cons, ordHead, Bool.and_eq_true] at hB
    have h0 : ops[k]? = some o := by simpa using (hll 0 (by simp)).symm
    by_cases hne : ∃ x, Cl w0 E x
    · obtain ⟨kd, hr, hrest⟩ := h hne
      refine AO.first h0 (by omega) (Region.noSelect_spec hsel) (fun c a v w => hQ c a o.dst v w) (fun t ot ht hot => ordLate_spec hl (by omega) h0 t ot ht hot) l.length listed E a hcl (Region.free_spec h0 hB.1.2) (by simpa using hB.1.1) hr fun B hBB => ?_
      exact AO.lex hsel hQ hl htail hg l (k + 1) _ _ _ (hcl.set (by simpa using hB.1.1)) (fun j hj => by have := hll (j + 1) (by simp; omega); simpa [Nat.add_assoc, Nat.add_comm 1 j] using this) (by omega) hB.2 (hrest B hBB)
    · exact fun w hw => absurd ⟨w, hw⟩ hne

theorem wp_region_ord {id : Nat} {a : Act} {w : World} {l : List Oper} (n : Nat) (hm : P.follows .mixedOrders = true) (hB : ordB .any l.toArray n = true)
    (hQ : ∀ c a d v w, Q (.panic c) (a.put d v) w → Q (.panic c) a w)
    (h : wpLex P l.toArray Q w.drew (l.drop n) (l.take n) Env.none a) : (Code.region id l.toArray true).wp P Q a w := by
  simp only [ordB, Bool.and_eq_true, decide_eq_true_eq] at hB
  obtain ⟨⟨⟨hsel, hn⟩, hl⟩, hh⟩ := hB
  have hn' : n ≤ l.length := by simpa using hn
  have htl : (l.take n).length = n := by simp; omega
  have hdl : (l.drop n).length = l.toArray.size - n := by simp
  have H := AO.lex (md := .any) (g := l.toArray.size - n) hsel hQ hl (fun j => by simp [List.getElem?_drop]) hdl (l.take n) 0 _ Env.none a (Closed.none _) (fun j hj => by
    have hj' : j < n := by rw [htl] at hj; exact hj
    simp [hj']) (by simpa using htl) (by rw [htl]; exact hh) h
  refine wp_region_any hm ?_
  have := AO.any _ _ _ _ w.drew H ⟨Below.refl _ _, fun s B o e => e.elim⟩
  rw [htl, show n + (l.toArray.size - n) = l.toArray.size by omega] at this
  exact this

/-! ### The moves of a walk -/
variable {tail rest : List Oper} {o : Oper} {a : Act}
/-- What stays so when memory grows. -/
def GrowsUp (R : World → Prop) : Prop := ∀ x y, R x → Below x.heap.size x y → R y
def GrE (w0 : World) (F : Env) (R : World → Prop) : Type := { x : World // Cl w0 F x ∧ R x }
@[go_sem] theorem GrE.cell {R : World → Prop} (g : GrE w0 F R) (b o : Nat) (h : b < w0.heap.size) : g.1.cell? ⟨b, o, none⟩ = w0.cell? ⟨b, o, none⟩ := g.2.1.below.cell (p := ⟨b, o, none⟩) h
@[go_sem] theorem GrE.frozen {R : World → Prop} (g : GrE w0 F R) (b o : Nat) (h : b < w0.heap.size) : g.1.frozen? ⟨b, o, none⟩ = w0.frozen? ⟨b, o, none⟩ := g.2.1.below.frozen (p := ⟨b, o, none⟩) h
theorem GrE.blk {R : World → Prop} (g : GrE w0 F R) {s B : Nat} {o : Obj} (h : F s B o) : g.1.heap[B]? = some o := (g.2.1.fact s B o h).2
theorem GrE.below {R : World → Prop} (g : GrE w0 F R) : Below w0.heap.size w0 g.1 := g.2.1.below
theorem GrE.call {R : World → Prop} (hR : GrowsUp R) {f : FuncId} {args : Array Value} {g : GrE w0 F R} {v : Value} (h : Calls P f args g.1 fun e w' => e = .returned v ∧ Below g.1.heap.size g.1 w') :
    Calls P f args g.1 fun e w' => e = .returned v ∧ ∃ k : GrE w0 F R, w' = k.1 :=
  h.mono fun _ w' ⟨he, hb⟩ => ⟨he, ⟨w', g.2.1.grow hb, hR _ _ g.2.2 hb⟩, rfl⟩
theorem GrE.same {R : World → Prop} {f : FuncId} {args : Array Value} {g : GrE w0 F R} {v : Value} (h : Calls P f args g.1 fun e w' => e = .returned v ∧ g.1 = w') :
    Calls P f args g.1 fun e w' => e = .returned v ∧ ∃ k : GrE w0 F R, w' = k.1 :=
  h.mono fun _ _ ⟨he, hb⟩ => ⟨he, g, hb.symm⟩

theorem quietUpon_mono {C D : World → Prop} {v : Value} {r : Result Next} (hCD : ∀ y, C y → D y) (h : Oper.quietUpon P C x v r) : Oper.quietUpon P D x v r := by
  cases r with
  | ok n w' =>
    cases n <;> simp only [Oper.quietUpon] at h ⊢
    case value => exact h
    case skip => exact h
    case enter f args => exact ⟨h.1, h.2.mono fun _ _ hh => ⟨hh.1, hCD _ hh.2⟩⟩
  | halt => simp only [Oper.quietUpon] at h

theorem wpLex_nil (h : ∀ x, Cl w0 E x → wpList P ops Q tail a x) : wpLex P ops Q w0 tail [] E a := h
theorem wpLex_skip (hw : Region.wanted o (yielded ops a.tmps) = false) (h : wpLex P ops Q w0 tail rest E (a.put o.dst undef)) : wpLex P ops Q w0 tail (o :: rest) E a :=
  fun _ => ⟨.inl undef, .inr ⟨hw, rfl⟩, fun _ _ => h⟩
theorem wpLex_fix (hw : Region.wanted o (yielded ops a.tmps) = true)
    (h : ∀ F : Env, Hid (∀ s B u, (o.looksAt ops).contains s = true → E s B u → F s B u) → ∀ R, GrowsUp R → Nonempty (GrE w0 F R) → ∀ K : Act → Prop, (∀ a', wpLex P ops Q w0 tail rest E a' → K a') → o.quiet P a (fun x => ∃ g : GrE w0 F R, x = g.1) K) :
    wpLex P ops Q w0 tail (o :: rest) E a := by
  rintro ⟨x0, hx0⟩
  replace h := h (E.only ops o) (fun s B u h1 h2 => ⟨h1, h2⟩)
  obtain ⟨v, hv, hk⟩ := h (fun _ => True) (fun _ _ _ _ => trivial) ⟨⟨x0, hx0.only o, trivial⟩⟩ (wpLex P ops Q w0 tail rest E) (fun _ h => h)
  refine ⟨.inl v, .inl ⟨hw, fun x hx => ?_⟩, fun _ _ => hk⟩
  have h1 := hv x ⟨⟨x, hx, trivial⟩, rfl⟩
  obtain ⟨u, hu, _⟩ := h (fun y => Below x.heap.size x y) (fun y z hy hz => hy.trans (hz.mono hy.size)) ⟨⟨x, hx, Below.refl _ _⟩⟩ (fun _ => True) (fun _ _ => trivial)
  have h2 := hu x ⟨⟨x, hx, Below.refl _ _⟩, rfl⟩
  have : v = u := quietUpon_det h1 h2
  subst this
  exact quietUpon_mono (fun y ⟨g, hg⟩ => hg ▸ g.2.2) h2
theorem wpLex_blk (hw : Region.wanted o (yielded ops a.tmps) = true) (obj : Obj) (hrun : ∀ x, Cl w0 (E.only ops o) x → (execOp a.eval o).run P x = .ok (.value (blkVal o x.heap.size)) (x.alloc obj))
    (h : ∀ B, w0.heap.size ≤ B → wpLex P ops Q w0 tail rest (E.upd o.dst B obj) (a.put o.dst (blkVal o B))) : wpLex P ops Q w0 tail (o :: rest) E a :=
  fun _ => ⟨.inr obj, ⟨hw, hrun⟩, h⟩
theorem blk_facts {w : World} {B : Nat} {cs : Array Value} {t : TypeId} (h : w.heap[B]? = some (.cells cs t (0, 0))) : (∀ j, w.cell? ⟨B, j, none⟩ = cs[j]?) ∧ (∀ j, w.frozen? ⟨B, j, none⟩ = false) :=
  ⟨fun j => cell_of_row w B j cs t (0, 0) h, fun j => by simp [World.frozen?, h]⟩
end
end Go.Proofs.YtibogpidnnodnaaGreatDoor

/- slices.Equal of texts and of numbers: are the rows the same. -/
namespace Go.Proofs.YtibogpidnnodnaaGreatDoor
open Go.RowKit

theorem take_same {α : Type} {xs ys : List α} {i : Nat} {x : α} (h : xs.take i = ys.take i) (hx : xs[i]? = some x) (hy : ys[i]? = some x) : xs.take (i + 1) = ys.take (i + 1) := by
  rw [List.take_add_one, List.take_add_one, h, hx, hy]
theorem next_less {m i : Nat} (h : i < m) : m - (intOf (.int .i64 ((i : Int) + 1))).toNat < m - (intOf (.int .i64 (i : Int))).toNat := by
  show m - ((i : Int) + 1).toNat < m - (i : Int).toNat
  omega
theorem not_same {α : Type} {xs ys : List α} {i : Nat} {x y : α} (hx : xs[i]? = some x) (hy : ys[i]? = some y) (h : x ≠ y) : xs ≠ ys := fun e => by
  subst e
  rw [hx] at hy
  exact h (Option.some.inj hy)
set_option maxHeartbeats 4000000 in
set_option maxRecDepth 100000 in
theorem eqs_any (A B : Option Addr) (c d : Nat) (xs ys : List (List UInt8)) (w : World) (ha : Txt w A c xs) (hb : Txt w B d ys) (hn : xs.length ≤ 140737488355328) (_hm : ys.length ≤ 140737488355328) :
    Calls Tryz.prog 12 #[.slice A xs.length c, .slice B ys.length d] w fun e w' => e = .returned (.bool (decide (xs = ys))) ∧ Below w.heap.size w w' := by
  have HA := Lib.hid ha
  have HB := Lib.hid hb
  clear ha hb
  by_cases hl : xs.length = ys.length
  · have hl2 : ((xs.length : Int) != (ys.length : Int)) = false := by simp [hl]
    go_enter Tryz.func12, Tryz.ntmps12
    go_upto_region 4 with fail
    go_loopw [13] (fun s13 wr => ∃ i : Nat, i ≤ xs.length ∧ s13 = .int .i64 i ∧ xs.take i = ys.take i ∧ Below w.heap.size w wr) (fun s13 _ => xs.length - (intOf s13).toNat)
    case atStart => exact ⟨0, Nat.zero_le _, rfl, rfl, Below.refl _ _⟩
    case round =>
      obtain ⟨i, hil, rfl, he, hK⟩ := hrel
      have K := Lib.hid hK
      have HE := Lib.hid he
      have HL := Lib.hid hl
      by_cases h1 : i < xs.length
      · obtain ⟨g, o, x, rfl, hg, hx, hc⟩ := HA.out.at_ h1
        obtain ⟨g2, o2, y, rfl, hg2, hy, hc2⟩ := HB.out.at_ (show i < ys.length by omega)
        have c1 : wr.cell? ⟨g, o + i, none⟩ = some (.string (bs x)) := by rw [World.cell?_of_block (hK.block g hg)]; exact hc
        have c2 : wr.cell? ⟨g2, o2 + i, none⟩ = some (.string (bs y)) := by rw [World.cell?_of_block (hK.block g2 hg2)]; exact hc2
        have z1 : g < wr.heap.size := Nat.lt_of_lt_of_le hg hK.size
        have z2 : g2 < wr.heap.size := Nat.lt_of_lt_of_le hg2 hK.size
        have i1 : ¬ ((i : Int) < 0) := by omega
        have i2 : (i : Int) < (xs.length : Int) := by omega
        have i3 : (i : Int) < (ys.length : Int) := by omega
        have HX := Lib.hid hx
        have HY := Lib.hid hy
        clear hK he hl hx hy hc hc2 hg hg2 hl2
        by_cases hxy : x = y
        · subst hxy
          have hbb : ((bs x).toList == (bs x).toList) = true := by simp
          have HT := Lib.hid (take_same HE.out HX.out HY.out)
          go_upto_region 6 with fail
          go_quiet (fail)
          go_wp2_with fail
          exact ⟨⟨i + 1, h1, rfl, HT.out, below_drewN K.out _⟩, next_less h1⟩
        · have hbb : ((bs x).toList == (bs y).toList) = false := by rw [bs_beq]; exact decide_eq_false hxy
          have HN := Lib.hid (show decide (xs = ys) = false from decide_eq_false (not_same HX.out HY.out hxy))
          go_upto_region 6 with fail
          go_quiet (fail)
          go_wp2_with fail
          go_ret
          exact ⟨by rw [HN.out]; rfl, below_drewN K.out _⟩
      · have hie : i = xs.length := by omega
        have hxe : xs = ys := by
          rw [hie, List.take_length, hl, List.take_length] at he
          exact he
        have HN := Lib.hid (show decide (xs = ys) = true from decide_eq_true hxe)
        have h1b : ¬ i < ys.length := by omega
        clear hK he hl hxe hl2 hie
        go_wp2_with fail
        go_ret
        exact ⟨by rw [HN.out]; rfl, K.out⟩
  · have hl2 : ((xs.length : Int) != (ys.length : Int)) = true := by simp; omega
    have HN := Lib.hid (show decide (xs = ys) = false from decide_eq_false fun e => hl (by rw [e]))
    clear hl
    go_enter Tryz.func12, Tryz.ntmps12
    go_wp2_with fail
    go_ret
    exact ⟨by rw [HN.out]; rfl, Below.refl _ _⟩
end Go.Proofs.YtibogpidnnodnaaGreatDoor

/- slices.Index, Contains, IndexFunc, ContainsFunc. Printed by mk_index.py. -/
namespace Go.Proofs.YtibogpidnnodnaaGreatDoor
open Go.RowKit
/-- A row of bytes that is read. -/
def Bts (w : World) (A : Option Addr) (c : Nat) (xs : List UInt8) : Prop :=
  xs.length ≤ c ∧ (0 < xs.length → ∃ g o, A = some ⟨g, o, none⟩ ∧ g < w.heap.size ∧ ∀ (j : Nat) x, xs[j]? = some x → w.cell? ⟨g, o + j, none⟩ = some (.int .u8 (x.toNat : Int)))
theorem Bts.at_ {w : World} {A : Option Addr} {c : Nat} {xs : List UInt8} (h : Bts w A c xs) {i : Nat} (hi : i < xs.length) : ∃ g o x, A = some ⟨g, o, none⟩ ∧ g < w.heap.size ∧ xs[i]? = some x ∧ w.cell? ⟨g, o + i, none⟩ = some (.int .u8 (x.toNat : Int)) := by
  obtain ⟨g, o, e, hg, hc⟩ := h.2 (by omega)
  exact ⟨g, o, _, e, hg, List.getElem?_eq_getElem hi, hc i _ (List.getElem?_eq_getElem hi)⟩
theorem any_take {α : Type} {p : α → Bool} {xs : List α} {i : Nat} {x : α} (h : (xs.take i).any p = false) (hx : xs[i]? = some x) (hp : p x = false) : (xs.take (i + 1)).any p = false := by
  rw [List.take_add_one, hx]
  simp [List.any_append, h, hp]
theorem any_hit {α : Type} {p : α → Bool} {xs : List α} {i : Nat} {x : α} (hx : xs[i]? = some x) (hp : p x = true) : xs.any p = true :=
  List.any_eq_true.2 ⟨x, List.mem_of_getElem? hx, hp⟩
/-- A place that was found, or none. -/
def Found (b : Bool) (e : Ending) : Prop := ∃ n : Int, e = .returned (.int .i64 n) ∧ decide (0 ≤ n) = b

set_option maxHeartbeats 4000000 in
set_option maxRecDepth 100000 in
theorem idxI_any (v : Int) (A : Option Addr) (c : Nat) (xs : List Int) (w : World) (ha : Ints w A c xs) (hn : xs.length ≤ 1000000000) :
    Calls Tryz.prog 75 #[.slice A xs.length c, .int .i64 v] w fun e w' => Found (xs.any (fun x => decide (v = x))) e ∧ Below w.heap.size w w' := by
  have HA := Lib.hid ha
  
  clear ha
  go_enter Tryz.func75, Tryz.ntmps75
  go_upto_region 2 with fail
  go_loopw [8] (fun s8 wr => ∃ i : Nat, i ≤ xs.length ∧ s8 = .int .i64 i ∧ (xs.take i).any (fun x => decide (v = x)) = false ∧ Below w.heap.size w wr) (fun s8 _ => xs.length - (intOf s8).toNat)
  case atStart => exact ⟨0, Nat.zero_le _, rfl, rfl, Below.refl _ _⟩
  case round =>
    obtain ⟨i, hil, rfl, he, hK⟩ := hrel
    have K := Lib.hid hK
    have HE := Lib.hid he
    by_cases h1 : i < xs.length
    · obtain ⟨g, o, x, rfl, hg, hx, hc⟩ := HA.out.at_ h1
      have c1 : wr.cell? ⟨g, o + i, none⟩ = some (.int .i64 x) := by rw [World.cell?_of_block (hK.block g hg)]; exact hc
      have z1 : g < wr.heap.size := Nat.lt_of_lt_of_le hg hK.size
      have i1 : ¬ ((i : Int) < 0) := by omega
      have i2 : (i : Int) < (xs.length : Int) := by omega
      have HX := Lib.hid hx
      
      clear hK he hx hc hg
      by_cases hxy : v = x
      · have hbb : (v == x) = true := by rw [hxy]; simp
        have HN := Lib.hid (any_hit (p := fun x => decide (v = x)) HX.out (decide_eq_true hxy))
        clear hxy
        go_wp2_with fail
        go_ret
        exact ⟨⟨(i : Int), rfl, by rw [HN.out]; exact decide_eq_true (by omega)⟩, K.out⟩
      · have hbb : (v == x) = false := by simp [hxy]
        have HT := Lib.hid (any_take (p := fun x => decide (v = x)) HE.out HX.out (decide_eq_false hxy))
        clear hxy
        go_wp2_with fail
        exact ⟨⟨i + 1, h1, rfl, HT.out, K.out⟩, next_less h1⟩
    · have hie : i = xs.length := by omega
      have HN := Lib.hid (show xs.any (fun x => decide (v = x)) = false by rw [hie, List.take_length] at he; exact he)
      clear hK he hie
      go_wp2_with fail
      go_ret
      exact ⟨⟨-1, rfl, by rw [HN.out]; rfl⟩, K.out⟩
set_option maxRecDepth 100000 in
theorem conI_any (v : Int) (A : Option Addr) (c : Nat) (xs : List Int) (w : World) (ha : Ints w A c xs) (hn : xs.length ≤ 1000000000) :
    Calls Tryz.prog 38 #[.slice A xs.length c, .int .i64 v] w fun e w' => e = .returned (.bool (xs.any (fun x => decide (v = x)))) ∧ Below w.heap.size w w' := by
  have H1 := Lib.hid (idxI_any v A c xs w ha hn)
  clear ha hn
  go_enter Tryz.func38, Tryz.ntmps38
  go_wp2_with fail
  refine H1.out.mono ?_
  rintro e w1 ⟨⟨n, rfl, hn⟩, hb⟩
  have HN := Lib.hid hn
  have K := Lib.hid hb
  clear hn hb H1
  go_wp2_with fail
  go_ret
  exact ⟨by rw [← HN.out]; rfl, K.out⟩
set_option maxHeartbeats 4000000 in
set_option maxRecDepth 100000 in
theorem idxB_any (v : UInt8) (A : Option Addr) (c : Nat) (xs : List UInt8) (w : World) (ha : Bts w A c xs) (hn : xs.length ≤ 1000000000) :
    Calls Tryz.prog 108 #[.slice A xs.length c, .int .u8 (v.toNat : Int)] w fun e w' => Found (xs.any (fun x => decide (v = x))) e ∧ Below w.heap.size w w' := by
  have HA := Lib.hid ha
  
  clear ha
  go_enter Tryz.func108, Tryz.ntmps108
  go_upto_region 2 with fail
  go_loopw [8] (fun s8 wr => ∃ i : Nat, i ≤ xs.length ∧ s8 = .int .i64 i ∧ (xs.take i).any (fun x => decide (v = x)) = false ∧ Below w.heap.size w wr) (fun s8 _ => xs.length - (intOf s8).toNat)
  case atStart => exact ⟨0, Nat.zero_le _, rfl, rfl, Below.refl _ _⟩
  case round =>
    obtain ⟨i, hil, rfl, he, hK⟩ := hrel
    have K := Lib.hid hK
    have HE := Lib.hid he
    by_cases h1 : i < xs.length
    · obtain ⟨g, o, x, rfl, hg, hx, hc⟩ := HA.out.at_ h1
      have c1 : wr.cell? ⟨g, o + i, none⟩ = some (.int .u8 (x.toNat : Int)) := by rw [World.cell?_of_block (hK.block g hg)]; exact hc
      have z1 : g < wr.heap.size := Nat.lt_of_lt_of_le hg hK.size
      have i1 : ¬ ((i : Int) < 0) := by omega
      have i2 : (i : Int) < (xs.length : Int) := by omega
      have HX := Lib.hid hx
      
      clear hK he hx hc hg
      by_cases hxy : v = x
      · have hbb : ((v.toNat : Int) == (x.toNat : Int)) = true := by rw [hxy]; simp
        have HN := Lib.hid (any_hit (p := fun x => decide (v = x)) HX.out (decide_eq_true hxy))
        clear hxy
        go_wp2_with fail
        go_ret
        exact ⟨⟨(i : Int), rfl, by rw [HN.out]; exact decide_eq_true (by omega)⟩, K.out⟩
      · have hbb : ((v.toNat : Int) == (x.toNat : Int)) = false := by have h2 : ¬ (v.toNat : Int) = (x.toNat : Int) := fun e => hxy (UInt8.toNat_inj.1 (by omega)); simp [h2]
        have HT := Lib.hid (any_take (p := fun x => decide (v = x)) HE.out HX.out (decide_eq_false hxy))
        clear hxy
        go_wp2_with fail
        exact ⟨⟨i + 1, h1, rfl, HT.out, K.out⟩, next_less h1⟩
    · have hie : i = xs.length := by omega
      have HN := Lib.hid (show xs.any (fun x => decide (v = x)) = false by rw [hie, List.take_length] at he; exact he)
      clear hK he hie
      go_wp2_with fail
      go_ret
      exact ⟨⟨-1, rfl, by rw [HN.out]; rfl⟩, K.out⟩
set_option maxRecDepth 100000 in
theorem conB_any (v : UInt8) (A : Option Addr) (c : Nat) (xs : List UInt8) (w : World) (ha : Bts w A c xs) (hn : xs.length ≤ 1000000000) :
    Calls Tryz.prog 70 #[.slice A xs.length c, .int .u8 (v.toNat : Int)] w fun e w' => e = .returned (.bool (xs.any (fun x => decide (v = x)))) ∧ Below w.heap.size w w' := by
  have H1 := Lib.hid (idxB_any v A c xs w ha hn)
  clear ha hn
  go_enter Tryz.func70, Tryz.ntmps70
  go_wp2_with fail
  refine H1.out.mono ?_
  rintro e w1 ⟨⟨n, rfl, hn⟩, hb⟩
  have HN := Lib.hid hn
  have K := Lib.hid hb
  clear hn hb H1
  go_wp2_with fail
  go_ret
  exact ⟨by rw [← HN.out]; rfl, K.out⟩
set_option maxHeartbeats 4000000 in
set_option maxRecDepth 100000 in
theorem idxFI_any (f : Nat) (cap : Array Value) (p : Int → Bool) (eg : ∀ args w, (callFunc f args).run Tryz.prog w = .ok (.enter f args) w) (A : Option Addr) (c : Nat) (xs : List Int) (w : World) (ha : Ints w A c xs) (hn : xs.length ≤ 1000000000) (hp : ∀ x ∈ xs, ∀ w', Below w.heap.size w w' → Calls Tryz.prog f (#[.int .i64 x] ++ cap) w' fun e w'' => e = .returned (.bool (p x)) ∧ Below w'.heap.size w' w'') :
    Calls Tryz.prog 71 #[.slice A xs.length c, .func (.func f) #[] cap] w fun e w' => Found (xs.any (p)) e ∧ Below w.heap.size w w' := by
  have HA := Lib.hid ha
  have HP := Lib.hid hp
  clear ha hp
  go_enter Tryz.func71, Tryz.ntmps71
  go_upto_region 2 with fail
  go_loopw [8] (fun s8 wr => ∃ i : Nat, i ≤ xs.length ∧ s8 = .int .i64 i ∧ (xs.take i).any (p) = false ∧ Below w.heap.size w wr) (fun s8 _ => xs.length - (intOf s8).toNat)
  case atStart => exact ⟨0, Nat.zero_le _, rfl, rfl, Below.refl _ _⟩
  case round =>
    obtain ⟨i, hil, rfl, he, hK⟩ := hrel
    have K := Lib.hid hK
    have HE := Lib.hid he
    by_cases h1 : i < xs.length
    · obtain ⟨g, o, x, rfl, hg, hx, hc⟩ := HA.out.at_ h1
      have c1 : wr.cell? ⟨g, o + i, none⟩ = some (.int .i64 x) := by rw [World.cell?_of_block (hK.block g hg)]; exact hc
      have z1 : g < wr.heap.size := Nat.lt_of_lt_of_le hg hK.size
      have i1 : ¬ ((i : Int) < 0) := by omega
      have i2 : (i : Int) < (xs.length : Int) := by omega
      have HX := Lib.hid hx
      have HC := Lib.hid (HP.out x (List.mem_of_getElem? hx) wr hK)
      clear hK he hx hc hg
      go_wp2_with fail
      refine HC.out.mono ?_
      rintro e w1 ⟨rfl, hb1⟩
      have K1 := Lib.hid (K.out.trans (hb1.mono K.out.size))
      clear hb1 HC c1 z1
      cases hxy : p x with
      | false =>
        have HT := Lib.hid (any_take HE.out HX.out hxy)
        clear hxy
        go_wp2_with fail
        exact ⟨⟨i + 1, h1, rfl, HT.out, K1.out⟩, next_less h1⟩
      | true =>
        have HN := Lib.hid (any_hit HX.out hxy)
        clear hxy
        go_wp2_with fail
        go_ret
        exact ⟨⟨(i : Int), rfl, by rw [HN.out]; exact decide_eq_true (by omega)⟩, K1.out⟩
    · have hie : i = xs.length := by omega
      have HN := Lib.hid (show xs.any (p) = false by rw [hie, List.take_length] at he; exact he)
      clear hK he hie
      go_wp2_with fail
      go_ret
      exact ⟨⟨-1, rfl, by rw [HN.out]; rfl⟩, K.out⟩
set_option maxRecDepth 100000 in
theorem conFI_any (f : Nat) (cap : Array Value) (p : Int → Bool) (eg : ∀ args w, (callFunc f args).run Tryz.prog w = .ok (.enter f args) w) (A : Option Addr) (c : Nat) (xs : List Int) (w : World) (ha : Ints w A c xs) (hn : xs.length ≤ 1000000000) (hp : ∀ x ∈ xs, ∀ w', Below w.heap.size w w' → Calls Tryz.prog f (#[.int .i64 x] ++ cap) w' fun e w'' => e = .returned (.bool (p x)) ∧ Below w'.heap.size w' w'') :
    Calls Tryz.prog 34 #[.slice A xs.length c, .func (.func f) #[] cap] w fun e w' => e = .returned (.bool (xs.any (p))) ∧ Below w.heap.size w w' := by
  have H1 := Lib.hid (idxFI_any f cap p eg A c xs w ha hn hp)
  clear ha hp hn
  go_enter Tryz.func34, Tryz.ntmps34
  go_wp2_with fail
  refine H1.out.mono ?_
  rintro e w1 ⟨⟨n, rfl, hn⟩, hb⟩
  have HN := Lib.hid hn
  have K := Lib.hid hb
  clear hn hb H1
  go_wp2_with fail
  go_ret
  exact ⟨by rw [← HN.out]; rfl, K.out⟩
set_option maxHeartbeats 4000000 in
set_option maxRecDepth 100000 in
theorem idxFS_any (f : Nat) (cap : Array Value) (p : List UInt8 → Bool) (eg : ∀ args w, (callFunc f args).run Tryz.prog w = .ok (.enter f args) w) (A : Option Addr) (c : Nat) (xs : List (List UInt8)) (w : World) (ha : Txt w A c xs) (hn : xs.length ≤ 1000000000) (hp : ∀ x ∈ xs, ∀ w', Below w.heap.size w w' → Calls Tryz.prog f (#[.string (bs x)] ++ cap) w' fun e w'' => e = .returned (.bool (p x)) ∧ Below w'.heap.size w' w'') :
    Calls Tryz.prog 91 #[.slice A xs.length c, .func (.func f) #[] cap] w fun e w' => Found (xs.any (p)) e ∧ Below w.heap.size w w' := by
  have HA := Lib.hid ha
  have HP := Lib.hid hp
  clear ha hp
  go_enter Tryz.func91, Tryz.ntmps91
  go_upto_region 2 with fail
  go_loopw [8] (fun s8 wr => ∃ i : Nat, i ≤ xs.length ∧ s8 = .int .i64 i ∧ (xs.take i).any (p) = false ∧ Below w.heap.size w wr) (fun s8 _ => xs.length - (intOf s8).toNat)
  case atStart => exact ⟨0, Nat.zero_le _, rfl, rfl, Below.refl _ _⟩
  case round =>
    obtain ⟨i, hil, rfl, he, hK⟩ := hrel
    have K := Lib.hid hK
    have HE := Lib.hid he
    by_cases h1 : i < xs.length
    · obtain ⟨g, o, x, rfl, hg, hx, hc⟩ := HA.out.at_ h1
      have c1 : wr.cell? ⟨g, o + i, none⟩ = some (.string (bs x)) := by rw [World.cell?_of_block (hK.block g hg)]; exact hc
      have z1 : g < wr.heap.size := Nat.lt_of_lt_of_le hg hK.size
      have i1 : ¬ ((i : Int) < 0) := by omega
      have i2 : (i : Int) < (xs.length : Int) := by omega
      have HX := Lib.hid hx
      have HC := Lib.hid (HP.out x (List.mem_of_getElem? hx) wr hK)
      clear hK he hx hc hg
      go_wp2_with fail
      refine HC.out.mono ?_
      rintro e w1 ⟨rfl, hb1⟩
      have K1 := Lib.hid (K.out.trans (hb1.mono K.out.size))
      clear hb1 HC c1 z1
      cases hxy : p x with
      | false =>
        have HT := Lib.hid (any_take HE.out HX.out hxy)
        clear hxy
        go_wp2_with fail
        exact ⟨⟨i + 1, h1, rfl, HT.out, K1.out⟩, next_less h1⟩
      | true =>
        have HN := Lib.hid (any_hit HX.out hxy)
        clear hxy
        go_wp2_with fail
        go_ret
        exact ⟨⟨(i : Int), rfl, by rw [HN.out]; exact decide_eq_true (by omega)⟩, K1.out⟩
    · have hie : i = xs.length := by omega
      have HN := Lib.hid (show xs.any (p) = false by rw [hie, List.take_length] at he; exact he)
      clear hK he hie
      go_wp2_with fail
      go_ret
      exact ⟨⟨-1, rfl, by rw [HN.out]; rfl⟩, K.out⟩
set_option maxRecDepth 100000 in
theorem conFS_any (f : Nat) (cap : Array Value) (p : List UInt8 → Bool) (eg : ∀ args w, (callFunc f args).run Tryz.prog w = .ok (.enter f args) w) (A : Option Addr) (c : Nat) (xs : List (List UInt8)) (w : World) (ha : Txt w A c xs) (hn : xs.length ≤ 1000000000) (hp : ∀ x ∈ xs, ∀ w', Below w.heap.size w w' → Calls Tryz.prog f (#[.string (bs x)] ++ cap) w' fun e w'' => e = .returned (.bool (p x)) ∧ Below w'.heap.size w' w'') :
    Calls Tryz.prog 52 #[.slice A xs.length c, .func (.func f) #[] cap] w fun e w' => e = .returned (.bool (xs.any (p))) ∧ Below w.heap.size w w' := by
  have H1 := Lib.hid (idxFS_any f cap p eg A c xs w ha hn hp)
  clear ha hp hn
  go_enter Tryz.func52, Tryz.ntmps52
  go_wp2_with fail
  refine H1.out.mono ?_
  rintro e w1 ⟨⟨n, rfl, hn⟩, hb⟩
  have HN := Lib.hid hn
  have K := Lib.hid hb
  clear hn hb H1
  go_wp2_with fail
  go_ret
  exact ⟨by rw [← HN.out]; rfl, K.out⟩
end Go.Proofs.YtibogpidnnodnaaGreatDoor
