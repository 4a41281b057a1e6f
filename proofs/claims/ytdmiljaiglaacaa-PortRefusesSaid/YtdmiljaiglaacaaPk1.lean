/- Joined texts: Grow, Str, Append, Off, Ints, Plain. -/
import Derived.WalkKit
import Derived.WalkSpells
import Derived.WalkLawsBesides
import Derived.BigQuiet
import Derived.Laws.IdiomStrings
import Derived.Deep.AppendSrc
import Derived.Deep.AppendLies
import Derived.Deep.Upon
import Derived.Test.YtdmiljaiglaacaaProg
import Derived.Lib.Hide
import Derived.Laws.AppendOwn
import Derived.Lib.SlicesCompact
/- Regions that draw their order and whose calls may make memory: one walk in the order of the text, at the class of worlds in which all that stood at the region's head is as it was. No program. -/
namespace Go.Proofs.Ytdmiljaiglaacaa
open Go.RowKit

/-- A world in which all blocks of 'w' are as they were. -/
def Gr (w : World) : Type := { w' : World // Below w.heap.size w w' }
instance Gr.some (w : World) : Nonempty (Gr w) := ⟨⟨w, Below.refl _ _⟩⟩
@[go_sem] theorem Gr.cell {w : World} (g : Gr w) (b o : Nat) (h : b < w.heap.size) : g.1.cell? ⟨b, o, none⟩ = w.cell? ⟨b, o, none⟩ := g.2.cell (p := ⟨b, o, none⟩) h
@[go_sem] theorem Gr.frozen {w : World} (g : Gr w) (b o : Nat) (h : b < w.heap.size) : g.1.frozen? ⟨b, o, none⟩ = w.frozen? ⟨b, o, none⟩ := g.2.frozen (p := ⟨b, o, none⟩) h
theorem Gr.size {w : World} (g : Gr w) : w.heap.size ≤ g.1.heap.size := g.2.size
theorem Gr.call {P : Program} {f : FuncId} {args : Array Value} {w : World} {g : Gr w} {v : Value}
    (h : Calls P f args g.1 fun e w' => e = .returned v ∧ Below g.1.heap.size g.1 w') :
    Calls P f args g.1 fun e w' => e = .returned v ∧ ∃ k : Gr w, w' = k.1 :=
  h.mono fun _ w' ⟨he, hb⟩ => ⟨he, ⟨w', g.2.trans (hb.mono g.size)⟩, rfl⟩
theorem Gr.same {P : Program} {f : FuncId} {args : Array Value} {w : World} {g : Gr w} {v : Value}
    (h : Calls P f args g.1 fun e w' => e = .returned v ∧ g.1 = w') :
    Calls P f args g.1 fun e w' => e = .returned v ∧ ∃ k : Gr w, w' = k.1 :=
  h.mono fun _ _ ⟨he, hb⟩ => ⟨he, g, hb.symm⟩
theorem Gr.drew {P : Program} {f : FuncId} {args : Array Value} {w : World} {g : Gr w} {v : Value}
    (h : Calls P f args g.1 fun e w' => e = .returned v ∧ ∃ n, w' = g.1.drewN n) :
    Calls P f args g.1 fun e w' => e = .returned v ∧ ∃ k : Gr w, w' = k.1 :=
  h.mono fun _ w' ⟨he, n, hb⟩ => ⟨he, ⟨w', by rw [hb]; exact below_drewN g.2 n⟩, rfl⟩
theorem wp_region_grow {P : Program} {id : Nat} {Q : Exit → Act → World → Prop} {a : Act} {w : World} {l : List Oper} (hm : P.follows .mixedOrders = true) (hB : Region.lexB .any l.toArray = true)
    (h : wpQuiet P l.toArray (fun w' => ∃ g : Gr w, w' = g.1) (fun a' => ∀ g : Gr w, Q .normal a' g.1) l a) : (Code.region id l.toArray true).wp P Q a w := by
  refine wp_region_quiet (C := fun w' => ∃ g : Gr w, w' = g.1) hm hB ⟨⟨w.drew, (Below.refl _ _).drew⟩, rfl⟩ ?_
  have e : (fun a' => ∀ w', (∃ g : Gr w, w' = g.1) → Q .normal a' w') = fun a' => ∀ g : Gr w, Q .normal a' g.1 := by
    funext a'; apply propext; exact ⟨fun H g => H _ ⟨g, rfl⟩, fun H w' ⟨g, hg⟩ => hg ▸ H g⟩
  rw [e]; simpa using h

theorem Below.after {B : Nat} {a w w' : World} (h : Below B a w) (k : Below w.heap.size w w') (hB : B ≤ w.heap.size) : Below B a w' := h.trans (k.mono hB)
theorem Below.after' {B : Nat} {a w w' : World} (h : Below B a w) (k : Below w.heap.size w w') (hB : B ≤ a.heap.size) : Below B a w' := h.trans (k.mono (Nat.le_trans hB h.size))
theorem Below.alloc' {B : Nat} {a w : World} (h : Below B a w) (hB : B ≤ a.heap.size) (o : Obj) : Below B a (w.alloc o) := h.alloc (Nat.le_trans hB h.size) o
/-- A store into the block that was laid behind 'w'. -/
theorem Below.setNew {B : Nat} {a w w1 : World} (h : Below B a w) (hB : B ≤ a.heap.size) (h1 : Below B a w1) (o : Nat) (u : Value) : Below B a (w1.setCell ⟨w.heap.size, o, none⟩ u) := h1.setCell (p := ⟨w.heap.size, o, none⟩) (Nat.le_trans hB h.size) u
theorem ret_int {k : IntKind} {a b : Int} (h : a = b) : Ending.returned (.int k a) = .returned (.int k b) := by rw [h]
theorem ret_bool {a b : Bool} (h : a = b) : Ending.returned (.bool a) = .returned (.bool b) := by rw [h]
theorem bcell {W w1 : World} (hb : Below W.heap.size W w1) : (∀ b o, b < W.heap.size → w1.cell? ⟨b, o, none⟩ = W.cell? ⟨b, o, none⟩) ∧ (∀ b o, b < W.heap.size → w1.frozen? ⟨b, o, none⟩ = W.frozen? ⟨b, o, none⟩) :=
  ⟨fun b o h => hb.cell (p := ⟨b, o, none⟩) h, fun b o h => hb.frozen (p := ⟨b, o, none⟩) h⟩
theorem calls_below {P : Program} {f : FuncId} {args : Array Value} {w : World} {v : Value} (h : Calls P f args w fun e w' => e = .returned v ∧ w = w') :
    Calls P f args w fun e w' => e = .returned v ∧ Below w.heap.size w w' := h.mono fun _ _ ⟨he, hb⟩ => ⟨he, hb ▸ Below.refl _ _⟩
end Go.Proofs.Ytdmiljaiglaacaa

/- Strings as lists of bytes; conversions. No program. -/
namespace Go.Proofs.Ytdmiljaiglaacaa
open Go.RowKit

/-- The string of these bytes. -/
def bs (l : List UInt8) : ByteArray := ⟨l.toArray⟩
theorem bs_append (x y : List UInt8) : bs x ++ bs y = bs (x ++ y) := ByteArray.mk_append_mk x y
theorem bs_toList (l : List UInt8) : (bs l).data.toList = l := rfl
theorem bs_list (l : List UInt8) : (bs l).toList = l := by rw [ByteArray.toList_eq]; rfl
theorem bs_beq (x y : List UInt8) : ((bs x).toList == (bs y).toList) = decide (x = y) := by rw [bs_list, bs_list]; by_cases h : x = y <;> simp [h]
theorem bs_of (s : ByteArray) : bs s.data.toList = s := rfl
theorem bs_size (l : List UInt8) : (bs l).size = l.length := by unfold bs ByteArray.size; simp
theorem size_toList (s : ByteArray) : s.data.toList.length = s.size := Array.length_toList
theorem bs_inj {x y : List UInt8} (h : bs x = bs y) : x = y := congrArg (fun s : ByteArray => s.data.toList) h
theorem bs_eq_iff {x y : List UInt8} : bs x = bs y ↔ x = y := ⟨bs_inj, fun h => by rw [h]⟩
theorem toNat_ofNat {n : Nat} (h : n < 256) : (UInt8.ofNat n).toNat = n := by simp; omega
theorem bs_get (l : List UInt8) (i : Nat) (h : i < (bs l).size) : (bs l)[i] = l[i]'(by rwa [bs_size] at h) := by rfl
theorem bs_extract (l : List UInt8) (a b : Nat) : (bs l).extract a b = bs ((l.drop a).take (b - a)) := by
  have h : ((bs l).extract a b).data = (bs l).data.extract a b := ByteArray.data_extract ..
  have e : (bs l).extract a b = ⟨(bs l).data.extract a b⟩ := by rw [← h]
  rw [e]
  unfold bs
  congr 1
  apply Array.ext'
  simp [List.take_drop]

/-- 'string(b)' of a row of the call's own: bytes. -/
theorem run_string_of_row {P : Program} (w : World) (src dst e : TypeId) (base : Nat) (v : Value) (l : List UInt8) (hs : P.underlying src = some (.slice e)) (he : P.underlying e = some (.int .u8)) (hd : P.underlying dst = some .string)
    (h : w.ownsRow base e 1 v l.length (l.map fun b => Value.int .u8 (b.toNat : Int))) : (convert src dst v).run P w = .ok (.string (bs l)) w := by
  have hc := fun (g : Nat) (hg : v.ownBlock = some g) => h.cells hg
  rcases h.2 with ⟨rfl, hn⟩ | ⟨g, cap, cur, rfl, _, _, _⟩
  · have : l = [] := List.eq_nil_of_length_eq_zero hn
    subst this
    exact run_convert_bytes_nil w src e hs he 0 0 dst hd
  · refine run_convert_bytes_back w src dst e _ cap l hs he hd fun j hj => ?_
    exact hc g rfl j _ (by simp [hj])
end Go.Proofs.Ytdmiljaiglaacaa

/- append onto a row of the call's own, out of whatever source: the row's block, and what else has turned. No program. -/
namespace Go.Proofs.Ytdmiljaiglaacaa
open Go.RowKit

theorem list_set_take (l vs : List Value) (v : Value) (o : Nat) (h : o + (vs.length + 1) ≤ l.length) :
    (l.set o v).take (o + 1) ++ vs ++ (l.set o v).drop (o + 1 + vs.length) = l.take o ++ (v :: vs) ++ l.drop (o + (vs.length + 1)) := by
  have e1 : (l.set o v).take (o + 1) = l.take o ++ [v] := by
    rw [List.take_succ_eq_append_getElem (by simp; omega)]
    rw [List.take_set, List.set_eq_of_length_le (by simp [Nat.min_le_left])]
    simp
  have e2 : (l.set o v).drop (o + 1 + vs.length) = l.drop (o + (vs.length + 1)) := by
    rw [List.drop_set_of_lt (by omega)]
    congr 1; omega
  rw [e1, e2]
  simp

theorem setCells_eq_setRow (g : Nat) (t : TypeId) (fr : Nat × Nat) : ∀ (vs : List Value) (o : Nat) (w : World) (cur : Array Value), w.heap[g]? = some (.cells cur t fr) → o + vs.length ≤ cur.size →
    w.setCells g o vs = w.setRow g (cur.toList.take o ++ vs ++ cur.toList.drop (o + vs.length)).toArray
  | [], o, w, cur, hg, _ => by
    have e : (cur.toList.take o ++ ([] : List Value) ++ cur.toList.drop (o + ([] : List Value).length)).toArray = cur := by simp
    rw [e, setRow_self w g cur t fr hg]
    rfl
  | v :: vs, o, w, cur, hg, hle => by
    have h1 := setCell_eq_setRow w g o cur t fr v hg
    have hg' : (w.setRow g (cur.setIfInBounds o v)).heap[g]? = some (.cells (cur.setIfInBounds o v) t fr) := setRow_heap w g cur _ t fr hg
    show (w.setCell ⟨g, o, none⟩ v).setCells g (o + 1) vs = _
    rw [h1, setCells_eq_setRow g t fr vs (o + 1) _ _ hg' (by simp at hle ⊢; omega), setRow_setRow]
    congr 2
    have := list_set_take cur.toList vs v o (by simpa using hle)
    simpa using this

/-- Behind one step: only the own row 'o' may have turned; the row is 'o'' now: the same, or a new one. -/
def Hop (w w' : World) (o o' : Option Nat) : Prop := w.grownBy w' o ∧ (o' = o ∨ ∃ g, w.heap.size ≤ g ∧ o' = some g)
theorem Hop.refl (w : World) (o : Option Nat) : Hop w w o o := ⟨World.grownBy.refl w o, .inl rfl⟩
theorem grownBy_trans {w w1 w2 : World} {o o1 : Option Nat} (h : w.grownBy w1 o) (k : w1.grownBy w2 o1) (ho : o1 = o ∨ ∀ g, o1 = some g → w.heap.size ≤ g) : w.grownBy w2 o :=
  ⟨k.os.trans h.os, k.tape.trans h.tape, k.output.trans h.output, Nat.le_trans h.size k.size, fun i hi hne => by
    rw [k.block i (Nat.lt_of_lt_of_le hi h.size) (fun e => by
      rcases ho with ho | ho
      · exact hne (e.trans ho)
      · have := ho i e.symm; omega), h.block i hi hne]⟩
theorem Hop.trans {w w1 w2 : World} {o o1 o2 : Option Nat} (h : Hop w w1 o o1) (k : Hop w1 w2 o1 o2) : Hop w w2 o o2 := by
  refine ⟨grownBy_trans h.1 k.1 ?_, ?_⟩
  · rcases h.2 with h2 | ⟨g, hg, h2⟩
    · exact .inl h2
    · exact .inr fun k hk => by rw [h2] at hk; cases hk; exact hg
  · rcases k.2 with k2 | ⟨g, hg, k2⟩
    · rcases h.2 with h2 | ⟨g', hg', h2⟩
      · exact .inl (k2.trans h2)
      · exact .inr ⟨g', hg', k2.trans h2⟩
    · exact .inr ⟨g, Nat.le_trans h.1.size hg, k2⟩
theorem Hop.grow {w w1 w2 : World} {o o1 : Option Nat} (h : Hop w w1 o o1) (k : Below w1.heap.size w1 w2) : Hop w w2 o o1 :=
  h.trans ⟨⟨k.os, k.tape, k.output, k.size, fun i hi _ => k.block i hi⟩, .inl rfl⟩
theorem grownBy_below {w w1 : World} (k : Below w.heap.size w w1) (o : Option Nat) : w.grownBy w1 o := ⟨k.os, k.tape, k.output, k.size, fun i hi _ => k.block i hi⟩
theorem own_below {w w1 : World} {base : Nat} {e : TypeId} {size : Nat} {v : Value} {n : Nat} {xs : List Value} (h : w.ownsRow base e size v n xs) (k : Below w.heap.size w w1) : w1.ownsRow base e size v n xs :=
  h.kept (grownBy_below k none) (by cases v.ownBlock <;> simp)
/-- Below a base that the own row lies behind, nothing has turned. -/
theorem Hop.below {w w' : World} {o o' : Option Nat} {B : Nat} (h : Hop w w' o o') (hB : B ≤ w.heap.size) (ho : ∀ k, o = some k → B ≤ k) : Below B w w' :=
  (Below.refl B w).grown h.1 hB ho
/-- The own row is not a block of another type. -/
theorem own_ne {w : World} {base : Nat} {e : TypeId} {size : Nat} {v : Value} {n : Nat} {xs : List Value} (h : w.ownsRow base e size v n xs) {L : Nat} {C : Array Value} {t : TypeId} {fr : Nat × Nat}
    (hL : w.heap[L]? = some (.cells C t fr)) (ht : t ≠ e) : some L ≠ v.ownBlock := by
  intro e1
  rcases h.2 with ⟨rfl, _⟩ | ⟨g, cap, cur, rfl, _, hg, _⟩
  · simp [Value.ownBlock] at e1
  · simp [Value.ownBlock] at e1
    subst e1
    rw [hL] at hg
    simp at hg
    exact ht hg.2.1

section
variable {P : Program}
theorem run_append_row (w : World) (t tx ty e : TypeId) (base : Nat) (i : TypeInfo) (z : Value) (size bytes : Nat) (ht : P.underlying t = some (.slice e)) (hi : P.info? e = some i) (hz : i.zero = some z)
    (hsize : i.size = size) (hby : i.bytes = bytes) (hzs : z.cells.size = size)
    (v : Value) (n : Nat) (xs : List Value) (hown : w.ownsRow base e size v n xs) (x : Value) (m : Nat) (news : List Value) (hs : Src P size tx x m news w)
    (h63 : n + m ≤ maxLen) (hbytes : (n + m) * bytes ≤ 140737488355328) (hbase : base ≤ w.heap.size) :
    ∃ v' w', (Builtin.append_ #[t, tx] ty #[v, x]).run P w = .ok v' w' ∧ w'.ownsRow base e size v' (n + m) (xs ++ news) ∧ Hop w w' v.ownBlock v'.ownBlock := by
  subst hsize hby
  have hmax : ((n + m : Nat) : Int) ≤ 9223372036854775807 := by unfold maxLen at h63; omega
  have hlen : (xs ++ news).length = (n + m) * i.size := by rw [List.length_append, hown.1, hs.newsLen, Nat.add_mul]
  -- a new row
  have new : ∀ (old : Nat) (o : Option Nat), old < n + m →
      (w.drew.alloc (.cells ((xs ++ news).toArray ++ Builtin.zeroCells z.cells (grownCap w (n + m) old e - (n + m))) e)).ownsRow base e i.size (.slice (some ⟨w.heap.size, 0, none⟩) (n + m) (grownCap w (n + m) old e)) (n + m) (xs ++ news) ∧
      Hop w (w.drew.alloc (.cells ((xs ++ news).toArray ++ Builtin.zeroCells z.cells (grownCap w (n + m) old e - (n + m))) e)) o (some w.heap.size) := by
    intro old o ho
    refine ⟨⟨hlen, .inr ⟨w.heap.size, _, _, rfl, hbase, heap_alloc_new w.drew _, grownCap_ge w (n + m) old e, grownCap_le_maxLen w (n + m) old e h63, ?_, ?_⟩⟩, ⟨rfl, rfl, rfl, by simp, fun k hk _ => heap_alloc_old w.drew _ hk⟩, .inr ⟨_, Nat.le_refl _, rfl⟩⟩
    · have := grownCap_ge w (n + m) old e
      simp only [Array.size_append, List.size_toArray, size_zeroCells, hzs, hlen, ← Nat.add_mul]
      congr 1
      omega
    · simp only [Array.toList_append]
      rw [← hlen]
      exact List.take_left
  have hfit : ∀ old, old < n + m → Builtin.nextslicecap (n + m) old * i.bytes ≤ 281474976710656 := fun old ho => growslice_fits ho hbytes
  rcases hown.2 with ⟨rfl, rfl⟩ | ⟨g, cap, cur, rfl, hbg, hg, hnc, hcm, hcs, htake⟩
  · have hx : xs = [] := List.eq_nil_of_length_eq_zero (by simpa using hown.1)
    subst hx
    by_cases hm : m = 0
    · subst hm
      have hn : news = [] := List.eq_nil_of_length_eq_zero (by simpa using hs.newsLen)
      subst hn
      exact ⟨_, _, run_append_nothing w t tx ty e i ht hi none 0 0 (Nat.le_refl _) x hs, World.ownsRow_nil w base e i.size, Hop.refl _ _⟩
    · have hr := run_append_grow_src (P := P) w t tx ty e i z ht hi hz none 0 0 [] (run_firstCells_none w.drew i.size 0 0 0) x m news hs (by omega) hmax (by have := hfit 0 (by omega); simpa using this)
      obtain ⟨h1, h2⟩ := new 0 (Value.ownBlock (.slice none 0 0)) (by omega)
      exact ⟨_, _, hr, h1, h2⟩
  · by_cases hroom : n + m ≤ cap
    · have hspan : n * i.size + news.length ≤ cur.size := by
        rw [hs.newsLen, hcs, ← Nat.add_mul]; exact Nat.mul_le_mul_right _ hroom
      have hcell : ∀ j, w.cell? ⟨g, j, none⟩ = cur[j]? := fun j => cell_of_row w g j cur e (0, 0) hg
      have hr := run_append_room_src (P := P) w t tx ty e i ht hi g 0 n cap x m news hs hroom (fun j hj => by rw [hcell]; simp; omega) (fun j hj => by simp [World.frozen?, hg])
      rw [Nat.zero_add, setCells_eq_setRow g e (0, 0) news (n * i.size) w cur hg hspan] at hr
      refine ⟨_, _, hr, ⟨hlen, .inr ⟨g, cap, _, rfl, hbg, setRow_heap w g cur _ e (0, 0) hg, hroom, hcm, ?_, ?_⟩⟩, ⟨rfl, rfl, rfl, by simp, fun k _ hne => setRow_other w g k _ (fun hh => hne (by rw [hh]; rfl))⟩, .inl rfl⟩
      · simp only [List.size_toArray, List.length_append, List.length_take, List.length_drop, Array.length_toList]
        rw [Nat.min_eq_left (by omega)]
        rw [← hcs]; omega
      · rw [htake]
        show (xs ++ news ++ _).take _ = _
        rw [← hlen]
        exact List.take_left
    · have hold : (Builtin.firstCells i.size n (.slice (some ⟨g, 0, none⟩) n cap)).run P w.drew = .ok xs.toArray w.drew := by
        refine run_firstCells_some (P := P) w.drew i.size n ⟨g, 0, none⟩ n cap xs hown.1 fun j u hj => ?_
        have := hown.cells (g := g) rfl j u hj
        simpa using this
      have hr := run_append_grow_src (P := P) w t tx ty e i z ht hi hz (some ⟨g, 0, none⟩) n cap xs hold x m news hs (by omega) hmax (hfit cap (by omega))
      obtain ⟨h1, h2⟩ := new cap (Value.ownBlock (.slice (some ⟨g, 0, none⟩) n cap)) (by omega)
      exact ⟨_, _, hr, h1, h2⟩

/-- At the list of a plain region's operations. -/
theorem wpList_append_row {w : World} {ops : Array Oper} {rest : List Oper} {o : Oper} {a : Act} {Q : Exit → Act → World → Prop} (hgd : o.guard = none) (s x : Operand) (t tx : TypeId)
    (ho : o.op = .call { callee := .builtin .append, args := #[s, x], argTypes := #[t, tx] })
    (base : Nat) (e : TypeId) (i : TypeInfo) (z : Value) (size bytes : Nat) (ht : P.underlying t = some (.slice e)) (hi : P.info? e = some i) (hz : i.zero = some z)
    (hsize : i.size = size) (hby : i.bytes = bytes) (hzs : z.cells.size = size)
    (v : Value) (n : Nat) (xs : List Value) (hv : a.eval s = v) (hown : w.ownsRow base e size v n xs)
    (X : Value) (m : Nat) (news : List Value) (hX : a.eval x = X)
    (h : ∀ v' w', w'.ownsRow base e size v' (n + m) (xs ++ news) → Hop w w' v.ownBlock v'.ownBlock → wpList P ops Q rest (a.put o.dst v') w')
    (hs : Src P size tx X m news w) (h63 : n + m ≤ maxLen) (hbytes : (n + m) * bytes ≤ 140737488355328) (hbase : base ≤ w.heap.size) : wpList P ops Q (o :: rest) a w :=
  wpList_plain hgd fun _ hK => by
    obtain ⟨v', w', hr, h2, h3⟩ := run_append_row w t tx o.type e base i z size bytes ht hi hz hsize hby hzs v n xs hown X m news hs h63 hbytes hbase
    unfold Oper.wp execOp
    simp only [ho, resolve, invoke, builtin, Sem.run_bind, Sem.run_pure, Result.andThen_ok, List.map_toArray, List.map_cons, List.map_nil, hv, hX, hr]
    exact hK _ _ (h v' w' h2 h3)
/-- At a step of a region that draws its order. -/
theorem step_append_row {w : World} {ops : Array Oper} {o : Oper} {a : Act} {K : Act → World → Prop} {Q : Exit → Act → World → Prop} {E : Prop} (hgd : o.guard = none) (s x : Operand) (t tx : TypeId)
    (ho : o.op = .call { callee := .builtin .append, args := #[s, x], argTypes := #[t, tx] })
    (base : Nat) (e : TypeId) (i : TypeInfo) (z : Value) (size bytes : Nat) (ht : P.underlying t = some (.slice e)) (hi : P.info? e = some i) (hz : i.zero = some z)
    (hsize : i.size = size) (hby : i.bytes = bytes) (hzs : z.cells.size = size)
    (v : Value) (n : Nat) (xs : List Value) (hv : a.eval s = v) (hown : w.ownsRow base e size v n xs)
    (X : Value) (m : Nat) (news : List Value) (hX : a.eval x = X)
    (h : ∀ v' w', w'.ownsRow base e size v' (n + m) (xs ++ news) → Hop w w' v.ownBlock v'.ownBlock → K (a.put o.dst v') w')
    (hs : Src P size tx X m news w) (h63 : n + m ≤ maxLen) (hbytes : (n + m) * bytes ≤ 140737488355328) (hbase : base ≤ w.heap.size) :
    if Region.wanted o (yielded ops a.tmps) = true then Oper.wp P o a w K Q else E := by
  have hw : Region.wanted o (yielded ops a.tmps) = true := by simp [Region.wanted, hgd]
  rw [if_pos hw]
  obtain ⟨v', w', hr, h2, h3⟩ := run_append_row w t tx o.type e base i z size bytes ht hi hz hsize hby hzs v n xs hown X m news hs h63 hbytes hbase
  unfold Oper.wp execOp
  simp only [ho, resolve, invoke, builtin, Sem.run_bind, Sem.run_pure, Result.andThen_ok, List.map_toArray, List.map_cons, List.map_nil, hv, hX, hr]
  exact h v' w' h2 h3
end

/-- A row of bytes of the call's own. -/
def cb (l : List UInt8) : List Value := l.map fun b => Value.int .u8 (b.toNat : Int)
theorem cb_length (l : List UInt8) : (cb l).length = l.length := List.length_map ..
theorem cb_append (x y : List UInt8) : cb (x ++ y) = cb x ++ cb y := List.map_append ..
def BRow (w : World) (base : Nat) (e : TypeId) (v : Value) (l : List UInt8) : Prop := w.ownsRow base e 1 v l.length (cb l)
theorem BRow.grow {w w1 : World} {base : Nat} {e : TypeId} {v : Value} {l : List UInt8} (h : BRow w base e v l) (k : Below w.heap.size w w1) : BRow w1 base e v l := own_below h k
theorem BRow.app {w : World} {base : Nat} {e : TypeId} {v : Value} {l m : List UInt8} {n : Nat} (h : w.ownsRow base e 1 v n (cb l ++ cb m)) (hn : n = l.length + m.length) : BRow w base e v (l ++ m) := by
  unfold BRow
  rw [List.length_append, cb_append, ← hn]
  exact h
theorem BRow.nil (w : World) (base : Nat) (e : TypeId) : BRow w base e (.slice none 0 0) [] := World.ownsRow_nil w base e 1
theorem byteCells_bs (l : List UInt8) : byteCells (bs l) = cb l := rfl
theorem BRow.string {P : Program} {w : World} {base : Nat} {v : Value} {l : List UInt8} (src dst e : TypeId) (hs : P.underlying src = some (.slice e)) (he : P.underlying e = some (.int .u8)) (hd : P.underlying dst = some .string)
    (h : BRow w base e v l) : (convert src dst v).run P w = .ok (.string (bs l)) w := run_string_of_row w src dst e base v l hs he hd h
theorem src_string {P : Program} {w : World} {tx : TypeId} (hk : P.underlying tx = some .string) (l : List UInt8) : Src P 1 tx (.string (bs l)) l.length (cb l) w := by
  have := Src.ofString (P := P) w hk (bs l)
  rwa [bs_size] at this
/-- The new block of a literal. -/
theorem src_block {P : Program} {w : World} {tx e' : TypeId} (hk : P.underlying tx = some (.slice e')) (size n c : Nat) (B : Nat) (cs : Array Value) (t : TypeId) (fr : Nat × Nat) (hb : w.heap[B]? = some (.cells cs t fr))
    (hl : cs.size = n * size) (h1 : ∀ u ∈ cs.toList, u.oneCell' = true) : Src P size tx (.slice (some ⟨B, 0, none⟩) n c) n cs.toList w :=
  Src.ofSlice w hk _ n c cs.toList (by simpa using hl) (World.news_of_block hb) h1
end Go.Proofs.Ytdmiljaiglaacaa

/- Rows of the call's own that may begin behind their block's head (popped from the front): append onto them. No program. -/
namespace Go.Proofs.Ytdmiljaiglaacaa
open Go.RowKit

/-- A row of the call's own; its first element may stand anywhere in its block. -/
def OffRow (w : World) (base : Nat) (e : TypeId) (size : Nat) (v : Value) (n : Nat) (xs : List Value) : Prop :=
  xs.length = n * size ∧
  ((v = .slice none 0 0 ∧ n = 0) ∨
   ∃ g o cap cur, v = .slice (some ⟨g, o, none⟩) n cap ∧ base ≤ g ∧ w.heap[g]? = some (.cells cur e (0, 0)) ∧ n ≤ cap ∧ cap ≤ maxLen ∧ o + cap * size ≤ cur.size ∧ (cur.toList.drop o).take (n * size) = xs)
section
variable {w w1 : World} {base : Nat} {e : TypeId} {size n : Nat} {v : Value} {xs : List Value}
theorem OffRow.of_own (h : w.ownsRow base e size v n xs) : OffRow w base e size v n xs := by
  refine ⟨h.1, ?_⟩
  rcases h.2 with h2 | ⟨g, cap, cur, rfl, h1, h2, h3, h4, h5, h6⟩
  · exact .inl h2
  · exact .inr ⟨g, 0, cap, cur, rfl, h1, h2, h3, h4, by omega, by simpa using h6⟩
theorem OffRow.nil (w : World) (base : Nat) (e : TypeId) (size : Nat) : OffRow w base e size (.slice none 0 0) 0 [] := ⟨by simp, .inl ⟨rfl, rfl⟩⟩
theorem OffRow.kept {row : Option Nat} (h : OffRow w base e size v n xs) (g : w.grownBy w1 row) (hne : row = none ∨ row ≠ v.ownBlock) : OffRow w1 base e size v n xs := by
  refine ⟨h.1, ?_⟩
  rcases h.2 with h2 | ⟨b, o, cap, cur, rfl, h1, h2, h3⟩
  · exact .inl h2
  · refine .inr ⟨b, o, cap, cur, rfl, h1, (g.block b (Array.getElem?_eq_some_iff.1 h2).1 ?_).trans h2, h3⟩
    intro e1
    rcases hne with hne | hne
    · rw [hne] at e1; cases e1
    · exact hne e1.symm
theorem OffRow.grow (h : OffRow w base e size v n xs) (k : Below w.heap.size w w1) : OffRow w1 base e size v n xs := h.kept (grownBy_below k none) (.inl rfl)
theorem OffRow.lower {b' : Nat} (h : OffRow w base e size v n xs) (hb : b' ≤ base) : OffRow w b' e size v n xs := by
  refine ⟨h.1, ?_⟩
  rcases h.2 with h2 | ⟨b, o, cap, cur, rfl, h1, h2⟩
  · exact .inl h2
  · exact .inr ⟨b, o, cap, cur, rfl, Nat.le_trans hb h1, h2⟩
theorem OffRow.base_le (h : OffRow w base e size v n xs) {k : Nat} (hk : v.ownBlock = some k) : base ≤ k ∧ k < w.heap.size := by
  rcases h.2 with ⟨rfl, _⟩ | ⟨b, o, cap, cur, rfl, h1, h2, _⟩
  · cases hk
  · cases hk; exact ⟨h1, (Array.getElem?_eq_some_iff.1 h2).1⟩
theorem OffRow.ne {L : Nat} {C : Array Value} {t : TypeId} {fr : Nat × Nat} (h : OffRow w base e size v n xs) (hL : w.heap[L]? = some (.cells C t fr)) (ht : t ≠ e) : some L ≠ v.ownBlock := by
  intro e1
  rcases h.2 with ⟨rfl, _⟩ | ⟨g, o, cap, cur, rfl, _, hg, _⟩
  · simp [Value.ownBlock] at e1
  · simp [Value.ownBlock] at e1
    subst e1
    rw [hL] at hg
    simp at hg
    exact ht hg.2.1
theorem OffRow.ne_obj {L : Nat} {ob : Obj} (h : OffRow w base e size v n xs) (hL : w.heap[L]? = some ob) (ht : ∀ cur, ob ≠ .cells cur e (0, 0)) : some L ≠ v.ownBlock := by
  intro e1
  rcases h.2 with ⟨rfl, _⟩ | ⟨g, o, cap, cur, rfl, _, hg, _⟩
  · simp [Value.ownBlock] at e1
  · simp [Value.ownBlock] at e1
    subst e1
    rw [hL] at hg
    exact ht _ (Option.some.inj hg)
theorem OffRow.cells {g o m cap : Nat} (h : OffRow w base e size (.slice (some ⟨g, o, none⟩) m cap) n xs) (j : Nat) (u : Value) (hj : xs[j]? = some u) : w.cell? ⟨g, o + j, none⟩ = some u := by
  rcases h.2 with ⟨h0, _⟩ | ⟨g', o', cap', cur, hv, h1, h2, h3, h4, h5, h6⟩
  · cases h0
  · cases hv
    rw [cell_of_row w g (o + j) cur e (0, 0) h2]
    rw [← h6] at hj
    have hlt : j < n * size := by
      have := (List.getElem?_eq_some_iff.1 hj).1
      simp at this; omega
    rw [List.getElem?_take_of_lt hlt, List.getElem?_drop] at hj
    simpa using hj
/-- The row without its first element. -/
theorem OffRow.next {x ys : List Value} {g o cap : Nat} (h : OffRow w base e size (.slice (some ⟨g, o, none⟩) (n + 1) cap) (n + 1) (x ++ ys)) (hx : x.length = size) :
    OffRow w base e size (.slice (some (if cap = 1 then ⟨g, o, none⟩ else ⟨g, o + size, none⟩)) n (cap - 1)) n ys := by
  have hl : ys.length = n * size := by
    have := h.1
    rw [List.length_append, hx, Nat.add_mul] at this
    omega
  refine ⟨hl, ?_⟩
  rcases h.2 with ⟨h0, _⟩ | ⟨g', o', cap', cur, hv, h1, h2, h3, h4, h5, h6⟩
  · cases h0
  · cases hv
    by_cases hc : cap = 1
    · subst hc
      have hn : n = 0 := by omega
      subst hn
      refine .inr ⟨g, o, 0, cur, by simp, h1, h2, Nat.le_refl _, by omega, by omega, ?_⟩
      have : ys = [] := List.eq_nil_of_length_eq_zero (by simpa using hl)
      rw [this]; simp
    · refine .inr ⟨g, o + size, cap - 1, cur, by simp [hc], h1, h2, by omega, by omega, ?_, ?_⟩
      · have e1 : cap * size = (cap - 1) * size + size := by
          rw [← Nat.succ_mul]; congr 1; omega
        omega
      · have h7 := congrArg (List.drop size) h6
        rw [List.drop_take, List.drop_drop, List.drop_left' hx, Nat.add_mul] at h7
        rw [← h7]
        congr 1
        omega
/-- The row without its last element. -/
theorem OffRow.pop {x ys : List Value} {g o cap : Nat} (h : OffRow w base e size (.slice (some ⟨g, o, none⟩) (n + 1) cap) (n + 1) (ys ++ x)) (hy : ys.length = n * size) :
    OffRow w base e size (.slice (some ⟨g, o, none⟩) n cap) n ys := by
  refine ⟨hy, ?_⟩
  rcases h.2 with ⟨h0, _⟩ | ⟨g', o', cap', cur, hv, h1, h2, h3, h4, h5, h6⟩
  · cases h0
  · cases hv
    refine .inr ⟨g, o, cap, cur, rfl, h1, h2, by omega, h4, h5, ?_⟩
    have h7 := congrArg (List.take (n * size)) h6
    rw [List.take_take, Nat.min_eq_left (Nat.mul_le_mul_right _ (by omega)), List.take_left' hy] at h7
    exact h7
end
theorem off_addr (g o j : Nat) : Addr.add ⟨g, o, none⟩ j = ⟨g, o + j, none⟩ := by unfold Addr.add; split <;> simp_all
section
variable {P : Program}
theorem run_append_off (w : World) (t tx ty e : TypeId) (base : Nat) (i : TypeInfo) (z : Value) (size bytes : Nat) (ht : P.underlying t = some (.slice e)) (hi : P.info? e = some i) (hz : i.zero = some z)
    (hsize : i.size = size) (hby : i.bytes = bytes) (hzs : z.cells.size = size)
    (v : Value) (n : Nat) (xs : List Value) (hown : OffRow w base e size v n xs) (x : Value) (m : Nat) (news : List Value) (hs : Src P size tx x m news w)
    (h63 : n + m ≤ maxLen) (hbytes : (n + m) * bytes ≤ 140737488355328) (hbase : base ≤ w.heap.size) :
    ∃ v' w', (Builtin.append_ #[t, tx] ty #[v, x]).run P w = .ok v' w' ∧ OffRow w' base e size v' (n + m) (xs ++ news) ∧ Hop w w' v.ownBlock v'.ownBlock := by
  rcases hown.2 with ⟨rfl, rfl⟩ | ⟨g, o, cap, cur, rfl, hbg, hg, hnc, hcm, hcs, htake⟩
  · have h0 : w.ownsRow base e size (.slice none 0 0) 0 xs := ⟨hown.1, .inl ⟨rfl, rfl⟩⟩
    obtain ⟨v', w', h1, h2, h3⟩ := run_append_row w t tx ty e base i z size bytes ht hi hz hsize hby hzs _ 0 xs h0 x m news hs h63 hbytes hbase
    exact ⟨v', w', h1, OffRow.of_own h2, h3⟩
  · subst hsize hby
    have hmax : ((n + m : Nat) : Int) ≤ 9223372036854775807 := by unfold maxLen at h63; omega
    have hlen : (xs ++ news).length = (n + m) * i.size := by rw [List.length_append, hown.1, hs.newsLen, Nat.add_mul]
    by_cases hroom : n + m ≤ cap
    · have hspan : o + n * i.size + news.length ≤ cur.size := by
        have h1 : (n + m) * i.size ≤ cap * i.size := Nat.mul_le_mul_right _ hroom
        rw [Nat.add_mul] at h1
        rw [hs.newsLen]; omega
      have hcell : ∀ j, w.cell? ⟨g, j, none⟩ = cur[j]? := fun j => cell_of_row w g j cur e (0, 0) hg
      have hr := run_append_room_src (P := P) w t tx ty e i ht hi g o n cap x m news hs hroom (fun j hj => by rw [hcell]; simp; omega) (fun j hj => by simp [World.frozen?, hg])
      rw [setCells_eq_setRow g e (0, 0) news (o + n * i.size) w cur hg hspan] at hr
      refine ⟨_, _, hr, ⟨hlen, .inr ⟨g, o, cap, _, rfl, hbg, setRow_heap w g cur _ e (0, 0) hg, hroom, hcm, ?_, ?_⟩⟩, ⟨rfl, rfl, rfl, by simp, fun k _ hne => setRow_other w g k _ (fun hh => hne (by rw [hh]; rfl))⟩, .inl rfl⟩
      · simp only [List.size_toArray, List.length_append, List.length_take, List.length_drop, Array.length_toList]
        rw [Nat.min_eq_left (by omega)]
        omega
      · show (List.drop o (cur.toList.take (o + n * i.size) ++ news ++ cur.toList.drop (o + n * i.size + news.length))).take ((n + m) * i.size) = xs ++ news
        have h1 : cur.toList.take (o + n * i.size) = cur.toList.take o ++ xs := by
          rw [List.take_add, htake]
        have h2 : (cur.toList.take o).length = o := by rw [List.length_take, Array.length_toList]; omega
        rw [h1, List.append_assoc, List.append_assoc, List.drop_left' h2, ← hlen, ← List.append_assoc]
        exact List.take_left
    · have hold : (Builtin.firstCells i.size n (.slice (some ⟨g, o, none⟩) n cap)).run P w.drew = .ok xs.toArray w.drew := by
        refine run_firstCells_some (P := P) w.drew i.size n ⟨g, o, none⟩ n cap xs hown.1 fun j u hj => ?_
        have := hown.cells j u hj
        rw [off_addr]
        exact this
      have hr := run_append_grow_src (P := P) w t tx ty e i z ht hi hz (some ⟨g, o, none⟩) n cap xs hold x m news hs (by omega) hmax (growslice_fits (by omega) hbytes)
      refine ⟨_, _, hr, OffRow.of_own ⟨hlen, .inr ⟨w.heap.size, _, _, rfl, hbase, heap_alloc_new w.drew _, grownCap_ge w (n + m) cap e, grownCap_le_maxLen w (n + m) cap e h63, ?_, ?_⟩⟩, ⟨rfl, rfl, rfl, by simp, fun k hk _ => heap_alloc_old w.drew _ hk⟩, .inr ⟨_, Nat.le_refl _, rfl⟩⟩
      · have := grownCap_ge w (n + m) cap e
        simp only [Array.size_append, List.size_toArray, size_zeroCells, hzs, hlen, ← Nat.add_mul]
        congr 1
        omega
      · simp only [Array.toList_append]
        rw [← hlen]
        exact List.take_left
/-- At the list of a plain region's operations. -/
theorem wpList_append_off {w : World} {ops : Array Oper} {rest : List Oper} {o : Oper} {a : Act} {Q : Exit → Act → World → Prop} (hgd : o.guard = none) (s x : Operand) (t tx : TypeId)
    (ho : o.op = .call { callee := .builtin .append, args := #[s, x], argTypes := #[t, tx] })
    (base : Nat) (e : TypeId) (i : TypeInfo) (z : Value) (size bytes : Nat) (ht : P.underlying t = some (.slice e)) (hi : P.info? e = some i) (hz : i.zero = some z)
    (hsize : i.size = size) (hby : i.bytes = bytes) (hzs : z.cells.size = size)
    (v : Value) (n : Nat) (xs : List Value) (hv : a.eval s = v) (hown : OffRow w base e size v n xs)
    (X : Value) (m : Nat) (news : List Value) (hX : a.eval x = X)
    (h : ∀ v' w', OffRow w' base e size v' (n + m) (xs ++ news) → Hop w w' v.ownBlock v'.ownBlock → wpList P ops Q rest (a.put o.dst v') w')
    (hs : Src P size tx X m news w) (h63 : n + m ≤ maxLen) (hbytes : (n + m) * bytes ≤ 140737488355328) (hbase : base ≤ w.heap.size) : wpList P ops Q (o :: rest) a w :=
  wpList_plain hgd fun _ hK => by
    obtain ⟨v', w', hr, h2, h3⟩ := run_append_off w t tx o.type e base i z size bytes ht hi hz hsize hby hzs v n xs hown X m news hs h63 hbytes hbase
    unfold Oper.wp execOp
    simp only [ho, resolve, invoke, builtin, Sem.run_bind, Sem.run_pure, Result.andThen_ok, List.map_toArray, List.map_cons, List.map_nil, hv, hX, hr]
    exact hK _ _ (h v' w' h2 h3)
end
end Go.Proofs.Ytdmiljaiglaacaa

/- Rows of ints that are read, and rows of the call's own. -/
namespace Go.Proofs.Ytdmiljaiglaacaa
open Go.RowKit

def I64 (x : Int) : Prop := -9223372036854775808 ≤ x ∧ x ≤ 9223372036854775807
/-- The cells of a list of numbers. -/
def ic (xs : List Int) : List Value := xs.map (Value.int .i64)
theorem ic_length (xs : List Int) : (ic xs).length = xs.length := List.length_map ..
theorem ic_append (xs ys : List Int) : ic (xs ++ ys) = ic xs ++ ic ys := List.map_append ..
theorem ic_get {xs : List Int} {j : Nat} {x : Int} (h : xs[j]? = some x) : (ic xs)[j]? = some (.int .i64 x) := by simp [ic, h]
theorem infoInt : (Try.prog.info? 3).map (fun i => (i.zero, i.size, i.bytes)) = some (some (.int .i64 0), 1, 8) := by kernel_rfl
/-- A row that reads as these numbers. -/
def Ints (w : World) (A : Option Addr) (c : Nat) (xs : List Int) : Prop :=
  xs.length ≤ c ∧ (0 < xs.length → ∃ g o, A = some ⟨g, o, none⟩ ∧ g < w.heap.size ∧ ∀ (j : Nat) x, xs[j]? = some x → w.cell? ⟨g, o + j, none⟩ = some (.int .i64 x))
theorem Ints.grow {w w' : World} {A : Option Addr} {c : Nat} {xs : List Int} (h : Ints w A c xs) (k : Below w.heap.size w w') : Ints w' A c xs :=
  ⟨h.1, fun hp => by
    obtain ⟨g, o, e, hg, hc⟩ := h.2 hp
    exact ⟨g, o, e, Nat.lt_of_lt_of_le hg k.size, fun j x hx => (World.cell?_of_block (k.block g hg)).trans (hc j x hx)⟩⟩
theorem Ints.nil (w : World) (A : Option Addr) (c : Nat) : Ints w A c [] := ⟨Nat.zero_le _, fun h => by simp at h⟩
/-- The place at i. -/
theorem Ints.at_ {w : World} {A : Option Addr} {c : Nat} {xs : List Int} (h : Ints w A c xs) {i : Nat} (hi : i < xs.length) : ∃ g o x, A = some ⟨g, o, none⟩ ∧ g < w.heap.size ∧ xs[i]? = some x ∧ w.cell? ⟨g, o + i, none⟩ = some (.int .i64 x) := by
  obtain ⟨g, o, e, hg, hc⟩ := h.2 (by omega)
  exact ⟨g, o, _, e, hg, List.getElem?_eq_getElem hi, hc i _ (List.getElem?_eq_getElem hi)⟩
def IRow (w : World) (base : Nat) (v : Value) (xs : List Int) : Prop := w.ownsRow base 3 1 v xs.length (ic xs)
theorem IRow.grow {w w1 : World} {base : Nat} {v : Value} {xs : List Int} (h : IRow w base v xs) (k : Below w.heap.size w w1) : IRow w1 base v xs := own_below h k
theorem IRow.nil (w : World) (base : Nat) : IRow w base (.slice none 0 0) [] := World.ownsRow_nil w base 3 1
theorem IRow.app {w : World} {base : Nat} {v : Value} {xs ys : List Int} {n : Nat} (h : w.ownsRow base 3 1 v n (ic xs ++ ic ys)) (hn : n = xs.length + ys.length) : IRow w base v (xs ++ ys) := by
  unfold IRow
  rw [List.length_append, ic_append, ← hn]
  exact h
theorem IRow.reads {w : World} {base : Nat} {v : Value} {xs : List Int} (h : IRow w base v xs) : ∃ A c, v = .slice A xs.length c ∧ Ints w A c xs := by
  have hc := fun (g : Nat) (hg : v.ownBlock = some g) => World.ownsRow.cells h hg
  rcases h.2 with ⟨rfl, hn⟩ | ⟨g, cap, cur, rfl, h1, h2, h3, _⟩
  · obtain rfl : xs = [] := List.eq_nil_of_length_eq_zero hn
    exact ⟨none, 0, rfl, Ints.nil _ _ _⟩
  · refine ⟨_, cap, rfl, h3, fun _ => ⟨g, 0, rfl, (Array.getElem?_eq_some_iff.1 h2).1, fun j x hx => ?_⟩⟩
    have := hc g rfl j _ (ic_get hx)
    have e : Addr.add ⟨g, 0, none⟩ j = ⟨g, j, none⟩ := by unfold Addr.add; split <;> simp_all
    rw [Nat.zero_add]
    rwa [e] at this
/-- A row of the call's own lies behind its base: so the blocks ahead of it are as they were. -/
theorem IRow.base_le {w : World} {base : Nat} {v : Value} {xs : List Int} (h : IRow w base v xs) {k : Nat} (hk : v.ownBlock = some k) : base ≤ k := (World.ownsRow.lt h k hk).1
end Go.Proofs.Ytdmiljaiglaacaa

/- Values of a pool, what they need, and their order: plain law, no program. -/
namespace Go.Proofs.Ytdmiljaiglaacaa

/-! ### Orders -/
structure Lin {α : Type} (lt : α → α → Prop) : Prop where
  irrefl : ∀ a, ¬ lt a a
  trans : ∀ a b c, lt a b → lt b c → lt a c
  tri : ∀ a b, lt a b ∨ a = b ∨ lt b a
theorem Lin.ne {α : Type} {lt : α → α → Prop} (L : Lin lt) {a b : α} (h : lt a b) : a ≠ b := fun e => L.irrefl b (e ▸ h)
theorem Lin.asymm {α : Type} {lt : α → α → Prop} (L : Lin lt) {a b : α} (h : lt a b) : ¬ lt b a := fun h2 => L.irrefl a (L.trans _ _ _ h h2)
def lexL {α β : Type} (l1 : α → α → Prop) (l2 : β → β → Prop) (p q : α × β) : Prop := l1 p.1 q.1 ∨ (p.1 = q.1 ∧ l2 p.2 q.2)
theorem lexL_lin {α β : Type} {l1 : α → α → Prop} {l2 : β → β → Prop} (A : Lin l1) (B : Lin l2) : Lin (lexL l1 l2) where
  irrefl a h := by
    rcases h with h | ⟨_, h⟩
    · exact A.irrefl _ h
    · exact B.irrefl _ h
  trans a b c h1 h2 := by
    rcases h1 with h1 | ⟨e1, h1⟩
    · rcases h2 with h2 | ⟨e2, _⟩
      · exact .inl (A.trans _ _ _ h1 h2)
      · exact .inl (e2 ▸ h1)
    · rcases h2 with h2 | ⟨e2, h2⟩
      · exact .inl (e1 ▸ h2)
      · exact .inr ⟨e1.trans e2, B.trans _ _ _ h1 h2⟩
  tri a b := by
    rcases A.tri a.1 b.1 with h | h | h
    · exact .inl (.inl h)
    · rcases B.tri a.2 b.2 with h' | h' | h'
      · exact .inl (.inr ⟨h, h'⟩)
      · exact .inr (.inl (Prod.ext h h'))
      · exact .inr (.inr (.inr ⟨h.symm, h'⟩))
    · exact .inr (.inr (.inl h))
theorem intL : Lin (fun a b : Int => a < b) := ⟨fun a h => by omega, fun a b c h1 h2 => by omega, fun a b => by omega⟩
theorem natL : Lin (fun a b : Nat => a < b) := ⟨fun a h => by omega, fun a b c h1 h2 => by omega, fun a b => by omega⟩
theorem txtL : Lin (fun a b : List UInt8 => a < b) where
  irrefl a := List.not_lt.2 (List.le_refl a)
  trans a b c h1 h2 := List.lt_trans h1 h2
  tri a b := by
    by_cases h1 : a < b
    · exact .inl h1
    · by_cases h2 : b < a
      · exact .inr (.inr h2)
      · exact .inr (.inl (List.le_antisymm (List.not_lt.1 h2) (List.not_lt.1 h1)))

/-! ### Values -/
structure Pv where
  tag : Int
  text : List UInt8
  bits : Nat
  cls : List UInt8
  name : List UInt8
  desc : List UInt8
def Pv.key (v : Pv) : Int × List UInt8 × Nat × List UInt8 × List UInt8 × List UInt8 := (v.tag, v.text, v.bits, v.cls, v.name, v.desc)
theorem Pv.key_inj {a b : Pv} (h : a.key = b.key) : a = b := by
  cases a; cases b
  simp only [Pv.key, Prod.mk.injEq] at h
  obtain ⟨rfl, rfl, rfl, rfl, rfl, rfl⟩ := h
  rfl
instance : DecidableEq Pv := fun a b => if h : a.key = b.key then isTrue (Pv.key_inj h) else isFalse (fun e => h (e ▸ rfl))
def Pv.zero : Pv := ⟨0, [], 0, [], [], []⟩
def Pv.ofText (s : List UInt8) : Pv := ⟨1, s, 0, [], [], []⟩
def Pv.ofCls (s : List UInt8) : Pv := ⟨7, s, 0, [], [], []⟩
def Pv.ofPair (n d : List UInt8) : Pv := ⟨12, [], 0, [], n, d⟩
def Pv.wide (v : Pv) : Bool := v.tag == 5 || v.tag == 6
def Pv.needs (v : Pv) : List Pv :=
  if v.tag = 7 ∨ v.tag = 8 then [Pv.ofText v.text]
  else if v.tag = 12 then [Pv.ofText v.name, Pv.ofText v.desc]
  else if v.tag = 9 ∨ v.tag = 10 ∨ v.tag = 11 then [Pv.ofCls v.cls, Pv.ofPair v.name v.desc]
  else []
def Pv.lt (a b : Pv) : Prop := lexL (fun a b : Int => a < b) (lexL (fun a b : List UInt8 => a < b) (lexL (fun a b : Nat => a < b) (lexL (fun a b : List UInt8 => a < b) (lexL (fun a b : List UInt8 => a < b) (fun a b : List UInt8 => a < b))))) a.key b.key
theorem Pv.lin : Lin Pv.lt := by
  have L := lexL_lin intL (lexL_lin txtL (lexL_lin natL (lexL_lin txtL (lexL_lin txtL txtL))))
  exact ⟨fun a => L.irrefl _, fun a b c => L.trans _ _ _, fun a b => (L.tri a.key b.key).imp_right (Or.imp_left Pv.key_inj)⟩
noncomputable instance : DecidableRel Pv.lt := fun _ _ => Classical.propDecidable _

/-! ### What is wrong with a value: 0: nothing -/
def Pv.chk (ok kind range : Int) (v : Pv) : Int :=
  if v.tag = 1 ∨ v.tag = 7 ∨ v.tag = 8 then (if v.bits = 0 ∧ v.cls = [] ∧ v.name = [] ∧ v.desc = [] then ok else kind)
  else if v.tag = 3 ∨ v.tag = 4 ∨ v.tag = 5 ∨ v.tag = 6 then (if v.text = [] ∧ v.cls = [] ∧ v.name = [] ∧ v.desc = [] then (if (v.tag = 3 ∨ v.tag = 4) ∧ 4294967296 ≤ v.bits then range else ok) else kind)
  else if v.tag = 12 then (if v.text = [] ∧ v.bits = 0 ∧ v.cls = [] then ok else kind)
  else if v.tag = 9 ∨ v.tag = 10 ∨ v.tag = 11 then (if v.text = [] ∧ v.bits = 0 then ok else kind)
  else kind

/-! ### Rows in order, each once -/
section
variable {α : Type} [DecidableEq α] {lt : α → α → Prop} [DecidableRel lt]
def putO (lt : α → α → Prop) [DecidableRel lt] (l : List α) (v : α) : List α :=
  if v ∈ l then l else l.takeWhile (fun x => decide (lt x v)) ++ v :: l.dropWhile (fun x => decide (lt x v))
theorem putO_mem (l : List α) (v x : α) : x ∈ putO lt l v ↔ x ∈ l ∨ x = v := by
  unfold putO
  split
  · rename_i h
    constructor
    · exact .inl
    · rintro (h1 | rfl)
      · exact h1
      · exact h
  · have : x ∈ l ↔ x ∈ l.takeWhile (fun x => decide (lt x v)) ∨ x ∈ l.dropWhile (fun x => decide (lt x v)) := by
      rw [← List.mem_append, List.takeWhile_append_dropWhile]
    rw [this, List.mem_append, List.mem_cons]
    constructor
    · rintro (h | rfl | h)
      · exact .inl (.inl h)
      · exact .inr rfl
      · exact .inl (.inr h)
    · rintro ((h | h) | rfl)
      · exact .inl h
      · exact .inr (.inr h)
      · exact .inr (.inl rfl)
omit [DecidableEq α] in
theorem drop_above (L : Lin lt) {v : α} : ∀ {l : List α}, l.Pairwise lt → v ∉ l → ∀ x ∈ l.dropWhile (fun x => decide (lt x v)), lt v x
  | [], _, _, x, h => by simp at h
  | y :: l, hp, hv, x, h => by
    rw [List.dropWhile_cons] at h
    by_cases hy : lt y v
    · rw [if_pos (by simpa using hy)] at h
      exact drop_above L (List.pairwise_cons.1 hp).2 (fun e => hv (List.mem_cons_of_mem _ e)) x h
    · rw [if_neg (by simpa using hy)] at h
      have hvy : lt v y := by
        rcases L.tri y v with h1 | h1 | h1
        · exact absurd h1 hy
        · exact absurd (h1 ▸ List.mem_cons_self ..) hv
        · exact h1
      rcases List.mem_cons.1 h with rfl | h
      · exact hvy
      · exact L.trans _ _ _ hvy ((List.pairwise_cons.1 hp).1 x h)
omit [DecidableEq α] in
theorem mem_takeWhile_sat {p : α → Bool} : ∀ {l : List α} {x : α}, x ∈ l.takeWhile p → p x = true
  | [], _, h => by simp at h
  | y :: l, x, h => by
    rw [List.takeWhile_cons] at h
    split at h
    · rcases List.mem_cons.1 h with rfl | h
      · assumption
      · exact mem_takeWhile_sat h
    · simp at h
theorem putO_rises (L : Lin lt) {l : List α} (h : l.Pairwise lt) (v : α) : (putO lt l v).Pairwise lt := by
  unfold putO
  split
  · exact h
  · rename_i hv
    have hd := drop_above L h hv
    have ht : ∀ x ∈ l.takeWhile (fun x => decide (lt x v)), lt x v := fun x hx => by simpa using mem_takeWhile_sat hx
    have hp : (l.takeWhile (fun x => decide (lt x v)) ++ l.dropWhile (fun x => decide (lt x v))).Pairwise lt := by rw [List.takeWhile_append_dropWhile]; exact h
    obtain ⟨p1, p2, p3⟩ := List.pairwise_append.1 hp
    refine List.pairwise_append.2 ⟨p1, List.pairwise_cons.2 ⟨hd, p2⟩, fun a ha b hb => ?_⟩
    rcases List.mem_cons.1 hb with rfl | hb
    · exact ht a ha
    · exact p3 a ha b hb
def sd (lt : α → α → Prop) [DecidableRel lt] (l : List α) : List α := l.foldl (putO lt) []
theorem sd_aux (L : Lin lt) : ∀ (l acc : List α), acc.Pairwise lt → (l.foldl (putO lt) acc).Pairwise lt ∧ ∀ x, x ∈ l.foldl (putO lt) acc ↔ x ∈ acc ∨ x ∈ l
  | [], acc, h => ⟨h, fun x => by simp⟩
  | v :: l, acc, h => by
    obtain ⟨h1, h2⟩ := sd_aux L l (putO lt acc v) (putO_rises L h v)
    refine ⟨h1, fun x => ?_⟩
    rw [List.foldl_cons, h2, putO_mem, List.mem_cons]
    constructor
    · rintro ((h | h) | h)
      · exact .inl h
      · exact .inr (.inl h)
      · exact .inr (.inr h)
    · rintro (h | h | h)
      · exact .inl (.inl h)
      · exact .inl (.inr h)
      · exact .inr h
theorem sd_rises (L : Lin lt) (l : List α) : (sd lt l).Pairwise lt := (sd_aux L l [] List.Pairwise.nil).1
theorem sd_mem (L : Lin lt) (l : List α) (x : α) : x ∈ sd lt l ↔ x ∈ l := ((sd_aux L l [] List.Pairwise.nil).2 x).trans (by simp)
omit [DecidableRel lt] in
omit [DecidableEq α] in
theorem rises_uniq (L : Lin lt) : ∀ {a b : List α}, a.Pairwise lt → b.Pairwise lt → (∀ x, x ∈ a ↔ x ∈ b) → a = b
  | [], b, _, _, h => by
    cases b with
    | nil => rfl
    | cons y b => exact absurd ((h y).2 (List.mem_cons_self ..)) (by simp)
  | x :: a, [], _, _, h => absurd ((h x).1 (List.mem_cons_self ..)) (by simp)
  | x :: a, y :: b, ha, hb, h => by
    obtain ⟨a1, a2⟩ := List.pairwise_cons.1 ha
    obtain ⟨b1, b2⟩ := List.pairwise_cons.1 hb
    have e : x = y := by
      rcases List.mem_cons.1 ((h x).1 (List.mem_cons_self ..)) with e | hx
      · exact e
      · rcases List.mem_cons.1 ((h y).2 (List.mem_cons_self ..)) with e | hy
        · exact e.symm
        · exact absurd (b1 x hx) (L.asymm (a1 y hy))
    subst e
    rw [rises_uniq L a2 b2 fun z => ?_]
    constructor
    · intro hz
      rcases List.mem_cons.1 ((h z).1 (List.mem_cons_of_mem _ hz)) with rfl | h'
      · exact absurd (a1 _ hz) (L.irrefl _)
      · exact h'
    · intro hz
      rcases List.mem_cons.1 ((h z).2 (List.mem_cons_of_mem _ hz)) with rfl | h'
      · exact absurd (b1 _ hz) (L.irrefl _)
      · exact h'
omit [DecidableRel lt] in
omit [DecidableEq α] in
theorem rises_nodup (L : Lin lt) {l : List α} (h : l.Pairwise lt) : l.Nodup := h.imp fun h => L.ne h
end

/-! ### All that is needed -/
def Pv.cl (v : Pv) : List Pv := v :: (v.needs ++ v.needs.flatMap Pv.needs)
def clAll (l : List Pv) : List Pv := l.flatMap Pv.cl
theorem Pv.needs_text (s : List UInt8) : (Pv.ofText s).needs = [] := by simp [Pv.needs, Pv.ofText]
theorem Pv.needs_cls (s : List UInt8) : (Pv.ofCls s).needs = [Pv.ofText s] := by simp [Pv.needs, Pv.ofCls]
theorem Pv.needs_pair (n d : List UInt8) : (Pv.ofPair n d).needs = [Pv.ofText n, Pv.ofText d] := by simp [Pv.needs, Pv.ofPair]
theorem Pv.needs3 (v a b : Pv) (h1 : a ∈ v.needs) (h2 : b ∈ a.needs) : b.needs = [] := by
  unfold Pv.needs at h1
  split at h1
  · simp only [List.mem_singleton] at h1
    subst h1
    simp [Pv.needs_text] at h2
  · split at h1
    · simp only [List.mem_cons, List.not_mem_nil, or_false] at h1
      rcases h1 with rfl | rfl <;> simp [Pv.needs_text] at h2
    · split at h1
      · simp only [List.mem_cons, List.not_mem_nil, or_false] at h1
        rcases h1 with rfl | rfl
        · rw [Pv.needs_cls] at h2
          simp only [List.mem_singleton] at h2
          subst h2
          exact Pv.needs_text _
        · rw [Pv.needs_pair] at h2
          simp only [List.mem_cons, List.not_mem_nil, or_false] at h2
          rcases h2 with rfl | rfl <;> exact Pv.needs_text _
      · simp at h1
theorem mem_cl {v x : Pv} : x ∈ v.cl ↔ x = v ∨ x ∈ v.needs ∨ ∃ y ∈ v.needs, x ∈ y.needs := by
  simp [Pv.cl]
theorem cl_closed {v x y : Pv} (hx : x ∈ v.cl) (hy : y ∈ x.needs) : y ∈ v.cl := by
  rw [mem_cl] at hx ⊢
  rcases hx with rfl | h | ⟨z, h1, h2⟩
  · exact .inr (.inl hy)
  · exact .inr (.inr ⟨x, h, hy⟩)
  · rw [Pv.needs3 _ _ _ h1 h2] at hy
    simp at hy
theorem clAll_closed {l : List Pv} {x y : Pv} (hx : x ∈ clAll l) (hy : y ∈ x.needs) : y ∈ clAll l := by
  obtain ⟨v, hv, h⟩ := List.mem_flatMap.1 hx
  exact List.mem_flatMap.2 ⟨v, hv, cl_closed h hy⟩
theorem clAll_has {l : List Pv} {x : Pv} (hx : x ∈ l) : x ∈ clAll l := List.mem_flatMap.2 ⟨x, hx, by simp [Pv.cl]⟩
/-- The least set that has these and what its values need. -/
theorem clAll_least {l : List Pv} {S : Pv → Prop} (h0 : ∀ x ∈ l, S x) (hs : ∀ x, S x → ∀ y ∈ x.needs, S y) {x : Pv} (hx : x ∈ clAll l) : S x := by
  obtain ⟨v, hv, h⟩ := List.mem_flatMap.1 hx
  rw [mem_cl] at h
  rcases h with rfl | h | ⟨z, h1, h2⟩
  · exact h0 _ hv
  · exact hs _ (h0 _ hv) _ h
  · exact hs _ (hs _ (h0 _ hv) _ h1) _ h2
/-- How many steps a value takes. -/
def Pv.wt (v : Pv) : Nat := v.cl.length
theorem Pv.wt_needs (v : Pv) : (v.needs.map Pv.wt).sum < v.wt := by
  have h : ∀ l : List Pv, (∀ a ∈ l, ∀ b ∈ a.needs, b.needs = []) → (l.map Pv.wt).sum = l.length + (l.flatMap Pv.needs).length := fun l => by
    induction l with
    | nil => intro _; rfl
    | cons a l ih =>
      intro h
      have e : a.needs.flatMap Pv.needs = [] := List.flatMap_eq_nil_iff.2 (h a (List.mem_cons_self ..))
      rw [List.map_cons, List.sum_cons, ih fun a ha => h a (List.mem_cons_of_mem _ ha)]
      simp only [Pv.wt, Pv.cl, e, List.append_nil, List.length_cons, List.flatMap_cons, List.length_append]
      omega
  rw [h _ fun a ha b hb => Pv.needs3 v a b ha hb]
  simp only [Pv.wt, Pv.cl, List.length_cons, List.length_append]
  omega
theorem Pv.needs_len (v : Pv) : v.needs.length ≤ 2 := by
  unfold Pv.needs
  split
  · simp
  · split
    · simp
    · split <;> simp
theorem Pv.wt_le (v : Pv) : v.wt ≤ 7 := by
  unfold Pv.wt Pv.cl
  have h1 := v.needs_len
  have h2 : (v.needs.flatMap Pv.needs).length ≤ v.needs.length * 2 := by
    generalize v.needs = l
    induction l with
    | nil => simp
    | cons a l ih =>
      have := a.needs_len
      simp only [List.flatMap_cons, List.length_append, List.length_cons]
      omega
  simp only [List.length_cons, List.length_append]
  omega
/-! ### The pool -/
def Pv.room (v : Pv) : Nat := if v.wide then 2 else 1
def Pv.slot (v : Pv) : List Pv := if v.wide then [v, v] else [v]
def Pv.slots (l : List Pv) : List Pv := Pv.zero :: l.flatMap Pv.slot
noncomputable def Pv.rest (low all : List Pv) : List Pv := sd Pv.lt ((clAll (low ++ all)).filter fun x => decide (x ∉ low))
noncomputable def Pv.ord (low all : List Pv) : List Pv := sd Pv.lt low ++ Pv.rest low all
theorem Pv.rest_mem (low all : List Pv) (x : Pv) : x ∈ Pv.rest low all ↔ x ∈ clAll (low ++ all) ∧ x ∉ low := by
  unfold Pv.rest
  rw [sd_mem Pv.lin, List.mem_filter]
  simp
theorem Pv.ord_mem (low all : List Pv) (x : Pv) : x ∈ Pv.ord low all ↔ x ∈ clAll (low ++ all) := by
  unfold Pv.ord
  rw [List.mem_append, sd_mem Pv.lin, Pv.rest_mem]
  constructor
  · rintro (h | h)
    · exact clAll_has (by simp [h])
    · exact h.1
  · intro h
    by_cases hx : x ∈ low
    · exact .inl hx
    · exact .inr ⟨h, hx⟩
theorem Pv.ord_nodup (low all : List Pv) : (Pv.ord low all).Nodup := by
  unfold Pv.ord
  refine List.nodup_append.2 ⟨rises_nodup Pv.lin (sd_rises Pv.lin _), rises_nodup Pv.lin (sd_rises Pv.lin _), fun a ha b hb e => ?_⟩
  subst e
  exact ((Pv.rest_mem _ _ _).1 hb).2 ((sd_mem Pv.lin _ _).1 ha)
/-- What is told of a value's number, from number n on. -/
def Pv.numFrom : Nat → List Pv → Pv → Nat
  | _, [], _ => 0
  | n, x :: xs, v => if x = v then n else Pv.numFrom (n + x.room) xs v
def Pv.num (l : List Pv) (v : Pv) : Nat := Pv.numFrom 1 l v
def Pv.fst : Nat → List Pv → Pv → Nat
  | _, [], _ => 0
  | n, x :: xs, v => if x = v then n else Pv.fst (n + 1) xs v
theorem Pv.fst_slots (v : Pv) : ∀ (l : List Pv) (n : Nat), Pv.fst n (l.flatMap Pv.slot) v = Pv.numFrom n l v
  | [], _ => rfl
  | x :: l, n => by
    have ih := Pv.fst_slots v l
    rw [List.flatMap_cons]
    unfold Pv.slot Pv.numFrom Pv.room
    split
    · simp only [List.cons_append, List.nil_append, Pv.fst]
      split
      · rfl
      · rw [Nat.add_assoc]; exact ih _
    · simp only [List.cons_append, List.nil_append, Pv.fst]
      split
      · rfl
      · exact ih _
theorem Pv.slot_len (v : Pv) : v.slot.length = v.room := by unfold Pv.slot Pv.room; split <;> rfl
theorem Pv.slots_len (l : List Pv) : (Pv.slots l).length = 1 + (l.map Pv.room).sum := by
  unfold Pv.slots
  rw [List.length_cons, List.length_flatMap, Nat.add_comm]
  refine congrArg (fun l => 1 + List.sum l) (List.map_congr_left fun v _ => Pv.slot_len v)
theorem Pv.numFrom_none {v : Pv} : ∀ {l : List Pv} {n : Nat}, v ∉ l → Pv.numFrom n l v = 0
  | [], _, _ => rfl
  | x :: l, n, h => by
    unfold Pv.numFrom
    rw [if_neg (fun e : x = v => h (e ▸ List.mem_cons_self ..))]
    exact Pv.numFrom_none fun e => h (List.mem_cons_of_mem _ e)
theorem Pv.numFrom_app (v : Pv) : ∀ (a b : List Pv) (n : Nat), Pv.numFrom n (a ++ b) v = if v ∈ a then Pv.numFrom n a v else Pv.numFrom (n + (a.map Pv.room).sum) b v
  | [], b, n => by simp
  | x :: a, b, n => by
    have ih := Pv.numFrom_app v a b (n + x.room)
    rw [List.cons_append]
    by_cases h : x = v
    · subst h
      simp [Pv.numFrom]
    · have e : (v ∈ x :: a) ↔ v ∈ a := by simp [Ne.symm h]
      have e1 : Pv.numFrom n (x :: (a ++ b)) v = Pv.numFrom (n + x.room) (a ++ b) v := by rw [Pv.numFrom, if_neg h]
      have e2 : Pv.numFrom n (x :: a) v = Pv.numFrom (n + x.room) a v := by rw [Pv.numFrom, if_neg h]
      rw [e1, e2, ih]
      simp only [e, List.map_cons, List.sum_cons, Nat.add_assoc]

/-! ### Constants -/
structure Rw where
  tag : Int
  text : List UInt8
  bits : Nat
  a : Nat
  b : Nat
def Rw.zero : Rw := ⟨0, [], 0, 0, 0⟩
def Pv.rawOf (nm : Pv → Nat) (v : Pv) : Rw :=
  match v.needs with
  | [] => ⟨v.tag, v.text, v.bits, 0, 0⟩
  | [x] => ⟨v.tag, [], v.bits, nm x, 0⟩
  | x :: y :: _ => ⟨v.tag, [], v.bits, nm x, nm y⟩
def Pv.raw1 (nm : Pv → Nat) (v : Pv) : List Rw := if v.wide then [v.rawOf nm, Rw.zero] else [v.rawOf nm]
def Pv.raws (l : List Pv) : List Rw := Rw.zero :: l.flatMap (Pv.raw1 (Pv.num l))
/-- The document's. -/
def Pv.rawRef (nm : Pv → Nat) (v : Pv) : Rw := ⟨v.tag, if v.tag = 1 then v.text else [], v.bits, (v.needs[0]?.map nm).getD 0, (v.needs[1]?.map nm).getD 0⟩
def Pv.rawGo (nm : Pv → Nat) : Pv → Bool → Bool → List Pv → List Rw
  | _, _, _, [] => []
  | p, first, half, v :: vs =>
    (if (!first && v.wide && decide (v = p) && !half) = true then Rw.zero else v.rawRef nm) :: Pv.rawGo nm v false (!first && v.wide && decide (v = p) && !half) vs
theorem Pv.raw_same {ok kind range : Int} (hk : ok ≠ kind) (hr : ok ≠ range) {v : Pv} (h : v.chk ok kind range = ok) (nm : Pv → Nat) : v.rawRef nm = v.rawOf nm := by
  unfold Pv.chk at h
  unfold Pv.rawRef Pv.rawOf Pv.needs
  split at h
  · rename_i h1
    rcases h1 with h1 | h1 | h1 <;> simp [h1]
  · split at h
    · rename_i h1
      split at h
      · rename_i h2
        rcases h1 with h1 | h1 | h1 | h1 <;> simp [h1, h2]
      · exact absurd h.symm hk
    · split at h
      · rename_i h1
        simp [h1]
      · split at h
        · rename_i h1
          rcases h1 with h1 | h1 | h1 <;> simp [h1]
        · exact absurd h.symm hk
theorem Pv.rawGo_same (nm : Pv → Nat) : ∀ (l : List Pv), l.Nodup → (∀ v ∈ l, v.rawRef nm = v.rawOf nm) → ∀ (p : Pv) (first half : Bool), first = true ∨ p ∉ l → Pv.rawGo nm p first half (l.flatMap Pv.slot) = l.flatMap (Pv.raw1 nm)
  | [], _, _, _, _, _, _ => rfl
  | v :: l, hn, hs, p, first, half, hp => by
    obtain ⟨n1, n2⟩ := List.nodup_cons.1 hn
    have e1 : (!first && v.wide && decide (v = p) && !half) = false := by
      rcases hp with rfl | hp
      · rfl
      · have : v ≠ p := fun e => hp (e ▸ List.mem_cons_self ..)
        simp [this]
    have ih := Pv.rawGo_same nm l n2 (fun x hx => hs x (List.mem_cons_of_mem _ hx)) v false
    rw [List.flatMap_cons, List.flatMap_cons]
    unfold Pv.slot Pv.raw1
    cases hw : v.wide
    · simp only [Bool.false_eq_true, if_false, List.cons_append, List.nil_append]
      unfold Pv.rawGo
      rw [e1]
      simp only [Bool.false_eq_true, if_false]
      rw [hs v (List.mem_cons_self ..)]
      exact congrArg _ (ih false (.inr n1))
    · simp only [if_true, List.cons_append, List.nil_append]
      unfold Pv.rawGo
      rw [e1]
      simp only [Bool.false_eq_true, if_false]
      rw [hs v (List.mem_cons_self ..)]
      refine congrArg _ ?_
      unfold Pv.rawGo
      rw [hw]
      simp only [Bool.not_false, Bool.true_and, Bool.and_true, decide_true, if_true]
      exact congrArg _ (ih true (.inr n1))
/-- The needs of a value that may be may be. -/
theorem Pv.chk_needs {ok kind range : Int} {v x : Pv} (hx : x ∈ v.needs) : x.chk ok kind range = ok := by
  unfold Pv.needs at hx
  split at hx
  · simp only [List.mem_singleton] at hx
    subst hx
    simp [Pv.chk, Pv.ofText]
  · split at hx
    · simp only [List.mem_cons, List.not_mem_nil, or_false] at hx
      rcases hx with rfl | rfl <;> simp [Pv.chk, Pv.ofText]
    · split at hx
      · simp only [List.mem_cons, List.not_mem_nil, or_false] at hx
        rcases hx with rfl | rfl <;> simp [Pv.chk, Pv.ofCls, Pv.ofPair]
      · simp at hx
theorem Pv.chk_cl {ok kind range : Int} {l : List Pv} (h : ∀ v ∈ l, v.chk ok kind range = ok) {x : Pv} (hx : x ∈ clAll l) : x.chk ok kind range = ok :=
  clAll_least (S := fun x => x.chk ok kind range = ok) h (fun x _ y hy => Pv.chk_needs hy) hx
end Go.Proofs.Ytdmiljaiglaacaa
