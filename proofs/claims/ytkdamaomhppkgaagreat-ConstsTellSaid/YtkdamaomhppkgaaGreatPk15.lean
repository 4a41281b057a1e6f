/- Joined texts: Number, Boxed, Keys, New, TabD, TabE. -/
import Derived.Test.YtkdamaomhppkgaaGreatPk14
import Derived.Deep.CutRange
import Derived.Deep.RegionLaw
import Derived.RangeFuncNested
import Derived.RangeFuncBound
import Derived.RangeFuncCalls
import Derived.RangeFuncLeaves
import Derived.RangeFuncGives
import Derived.Test.YtkdamaomhppkgaaGreatPk1
import Derived.Test.YtkdamaomhppkgaaGreatPk6
import Derived.Test.YtkdamaomhppkgaaGreatPk4
import Derived.RangeFuncSeq
import Derived.Sort.MapsRangeIn
import Derived.Sort.KeysCollected
import Derived.WalkKit
import Derived.OwnWalkIn
import Derived.TacticsInMore
import Derived.RegionIn
import Derived.LoopNIn
import Derived.LoopIn
import Derived.Maps.AppendAt
import Derived.Test.YtkdamaomhppkgaaGreatPk3
import Derived.Test.YtkdamaomhppkgaaGreatPk12
import Derived.Test.YtkdamaomhppkgaaGreatPk7
/- The walk of layer 19: values are given numbers, by the program. -/
namespace Go.Proofs.YtkdamaomhppkgaaGreat
open Go.RowKit Go.Maps

/-- A pool that is being made. -/
structure PoolS (x : World) (base b : Nat) (u : Value) (m n : Nat) (O : List Pv) : Prop where
  box : x.heap[b]? = some (.cells #[u, .map (some m), .int .i64 ((1 + (O.map Pv.room).sum : Nat) : Int)] 90 (0, 0))
  row : VRow x base u O
  num : VNum x m n (fun v => ((Pv.num O v : Nat) : Int))
  hb : base ≤ b
  hm : base ≤ m
  hn : n ≤ O.length
section
variable {x y : World} {base b m n : Nat} {u : Value} {O : List Pv}
theorem PoolS.grow (h : PoolS x base b u m n O) (k : Below x.heap.size x y) : PoolS y base b u m n O :=
  ⟨(k.block b (Array.getElem?_eq_some_iff.1 h.box).1).trans h.box, h.row.grow k, h.num.grow k, h.hb, h.hm, h.hn⟩
theorem PoolS.lt (h : PoolS x base b u m n O) : b < x.heap.size := (Array.getElem?_eq_some_iff.1 h.box).1
/-- Another row turns. -/
theorem PoolS.kept (h : PoolS x base b u m n O) {t : Value} {T : List Pv} (ht : VRow x base t T) (hg : x.grownBy y t.ownBlock) (ha : ApartOf t [u]) : PoolS y base b u m n O := by
  refine ⟨(hg.block b h.lt ?_).trans h.box, h.row.kept hg (fun k hk e => ha k e u (by simp) hk), h.num.kept hg ?_, h.hb, h.hm, h.hn⟩
  · exact own_ne ht h.box (by decide)
  · intro e
    rcases ht.2 with ⟨rfl, _⟩ | ⟨g, cap, cur, rfl, _, h2, _⟩
    · cases e
    · obtain ⟨D, ⟨es, clock, hb, _⟩, _⟩ := h.num
      cases e
      rw [hb] at h2
      cases h2
theorem num_snoc {O : List Pv} {v : Pv} (hv : v ∉ O) (x : Pv) : ((Pv.num (O ++ [v]) x : Nat) : Int) = if x = v then ((1 + (O.map Pv.room).sum : Nat) : Int) else ((Pv.num O x : Nat) : Int) := by
  unfold Pv.num
  rw [Pv.numFrom_app]
  by_cases e : x = v
  · subst e
    rw [if_neg hv, if_pos rfl]
    simp [Pv.numFrom]
  · rw [if_neg e]
    by_cases h : x ∈ O
    · rw [if_pos h]
    · rw [if_neg h, Pv.numFrom_none h]
      simp [Pv.numFrom, Ne.symm e]
theorem room_snoc (O : List Pv) (v : Pv) : ((O ++ [v]).map Pv.room).sum = (O.map Pv.room).sum + v.room := by simp
theorem room_le (O : List Pv) : (O.map Pv.room).sum ≤ 2 * O.length := by
  induction O with
  | nil => simp
  | cons x l ih =>
    have hx : x.room ≤ 2 := by unfold Pv.room; split <;> omega
    simp only [List.map_cons, List.sum_cons, List.length_cons]; omega
end
/-- All maps but m are as they were. -/
def MapsKept (m : Nat) (w w' : World) : Prop := ∀ (k : Nat) (es : Array MapEntry) (ck : Nat), k ≠ m → w.heap[k]? = some (.map es ck) → w'.heap[k]? = some (.map es ck)
theorem MapsKept.trans {m : Nat} {x y z : World} (h : MapsKept m x y) (k : MapsKept m y z) : MapsKept m x z := fun i es ck hi he => k i es ck hi (h i es ck hi he)
theorem MapsKept.of_below {m : Nat} {x y : World} (h : Below x.heap.size x y) : MapsKept m x y := fun k _es _ck _ he => (h.block k (Array.getElem?_eq_some_iff.1 he).1).trans he
theorem MapsKept.of_grown {m : Nat} {x y : World} {row : Option Nat} (h : x.grownBy y row) (hr : ∀ k, row = some k → k = m ∨ ∃ cs t fr, x.heap[k]? = some (.cells cs t fr)) : MapsKept m x y := fun k es ck hk he =>
  (h.block k (Array.getElem?_eq_some_iff.1 he).1 (fun e => by
    rcases hr k e.symm with h1 | ⟨cs, t, fr, h1⟩
    · exact hk h1
    · rw [h1] at he; cases he)).trans he
theorem VRow.isRow {w : World} {base : Nat} {u : Value} {xs : List Pv} (h : VRow w base u xs) (m : Nat) : ∀ k, u.ownBlock = some k → k = m ∨ ∃ cs t fr, w.heap[k]? = some (.cells cs t fr) := by
  intro k hk
  rcases h.2 with ⟨rfl, _⟩ | ⟨g', cap, cur, rfl, _, h3, _⟩
  · cases hk
  · cases hk
    exact .inr ⟨_, _, _, h3⟩
theorem isBox {w : World} {b m : Nat} {cs : Array Value} {t : TypeId} {fr : Nat × Nat} (h : w.heap[b]? = some (.cells cs t fr)) : ∀ k, some b = some k → k = m ∨ ∃ cs t fr, w.heap[k]? = some (.cells cs t fr) := by
  intro k hk
  cases hk
  exact .inr ⟨_, _, _, h⟩
/-- Between the order's append and the number's store. -/
def Mid (w : World) (base b m n bx : Nat) (nx : Int) (f : Pv → Int) (O' : List Pv) (u9 : Value) (D : List Pv) (v : Pv) (x : World) : Prop :=
  ∃ u', x.heap[b]? = some (.cells #[u', .map (some m), .int .i64 nx] 90 (0, 0)) ∧ VRow x base u' O' ∧ VNum x m n f ∧ VRow x base u9 D ∧ ApartOf u' [u9] ∧ VBox x bx v ∧ Below base w x ∧ MapsKept m w x
theorem grownBy_setBox (w : World) (b o : Nat) {cur : Array Value} {t : TypeId} {fr : Nat × Nat} (h : w.heap[b]? = some (.cells cur t fr)) (v : Value) : w.grownBy (w.setCell ⟨b, o, none⟩ v) (some b) := by
  rw [setCell_eq_setRow w b o cur t fr v h]
  exact ⟨rfl, rfl, rfl, by simp, fun k _ hne => setRow_other w b k _ (fun hh => hne (by rw [hh]))⟩
theorem box_set {w : World} {b o : Nat} {cur cur' : Array Value} {t : TypeId} (h : w.heap[b]? = some (.cells cur t (0, 0))) (u : Value) (he : cur.setIfInBounds o u = cur') : (w.setCell ⟨b, o, none⟩ u).heap[b]? = some (.cells cur' t (0, 0)) := by
  rw [setCell_eq_setRow w b o _ _ _ u h, ← he]
  exact setRow_heap w b _ _ _ _ h
/-- An append onto a row: another block is as it was. -/
theorem app_kept {w0 W x : World} {base b : Nat} {u : Value} {o' : Option Nat} {P : List Pv} {cs : Array Value} {t : TypeId} (hp : Hop W x u.ownBlock o') (k : Below w0.heap.size w0 W) (hu : VRow w0 base u P) (hb : w0.heap[b]? = some (.cells cs t (0, 0))) (ht : t ≠ 36) :
    x.heap[b]? = some (.cells cs t (0, 0)) := by
  have hlt := (Array.getElem?_eq_some_iff.1 hb).1
  exact (hp.1.block b (Nat.lt_of_lt_of_le hlt k.size) (own_ne (hu.grow k) ((k.block b hlt).trans hb) ht)).trans ((k.block b hlt).trans hb)
theorem app_grown {w0 W x : World} {o o' : Option Nat} (hp : Hop W x o o') (k : Below w0.heap.size w0 W) : Hop w0 x o o' := by
  refine ⟨grownBy_trans (grownBy_below k o) hp.1 (.inl rfl), ?_⟩
  rcases hp.2 with h | ⟨g, hg, h⟩
  · exact .inl h
  · exact .inr ⟨g, Nat.le_trans k.size hg, h⟩
theorem app_box {wr W x : World} {base : Nat} {u : Value} {o' : Option Nat} {P : List Pv} {v : Pv} (hp : Hop W x u.ownBlock o') (k : Below (wr.alloc (.cells #[.int .i64 v.tag, .string (bs v.text), .int .u64 v.bits, .string (bs v.cls), .string (bs v.name), .string (bs v.desc)] 36)).heap.size (wr.alloc (.cells #[.int .i64 v.tag, .string (bs v.text), .int .u64 v.bits, .string (bs v.cls), .string (bs v.name), .string (bs v.desc)] 36)) W) (hu : VRow wr base u P) : VBox x wr.heap.size v := by
  have h0 := vbox_new wr v
  refine (hp.1.block wr.heap.size (Nat.lt_of_lt_of_le h0.lt k.size) (fun e => Nat.lt_irrefl _ (hu.lt e.symm))).trans ((k.block _ h0.lt).trans h0)
theorem mid_mk {w wr x7 : World} {base b m n nx : Nat} {u u7 u9 : Value} {P D : List Pv} {v : Pv} (hp : PoolS wr base b u m n P) (h9 : VRow wr base u9 D) (hap : ApartOf u [u9]) (hB : Below base w wr) (hK : MapsKept m w wr) (hop : Hop wr x7 u.ownBlock u7.ownBlock)
    (hr7 : VRow x7 base u7 (P ++ [v])) (hb7 : x7.heap[b]? = some (.cells #[u, .map (some m), .int .i64 (nx : Int)] 90 (0, 0))) (hv : VBox x7 wr.heap.size v) :
    Mid w base b m n wr.heap.size nx (fun x => ((Pv.num P x : Nat) : Int)) (P ++ [v]) u9 D v (x7.setCell ⟨b, 0, none⟩ u7) := by
  have hg := grownBy_setBox x7 b 0 hb7 u7
  have hn7 : VNum x7 m n (fun x => ((Pv.num P x : Nat) : Int)) := hp.num.kept hop.1 (fun e => by
    rcases hp.row.2 with ⟨rfl, _⟩ | ⟨g, cap, cur, rfl, _, h2, _⟩
    · cases e
    · obtain ⟨D, ⟨es, clock, hb, _⟩, _⟩ := hp.num
      cases e
      rw [hb] at h2
      cases h2)
  have h97 : VRow x7 base u9 D := h9.hop hop hap (by simp)
  refine ⟨u7, box_set hb7 u7 rfl, hr7.kept hg (fun k hk e => ?_), hn7.kept hg (fun e => ?_), h97.kept hg (fun k hk e => ?_), hap.hop hop (fun t ht k e => ?_), (hg.block _ hv.lt (fun e => ?_)).trans hv, ?_, (hK.trans (.of_grown hop.1 (hp.row.isRow m))).trans (.of_grown hg (isBox hb7))⟩
  · exact own_ne hr7 hb7 (by decide) (e.trans hk.symm)
  · exact hn7.ne hb7 (Option.some.inj e)
  · exact own_ne h97 hb7 (by decide) (e.trans hk.symm)
  · rw [List.mem_singleton] at ht
    subst ht
    exact h9.lt e
  · have h1 := hp.lt
    have h2 := Option.some.inj e
    omega
  · have hbs : base ≤ wr.heap.size := Nat.le_trans hp.hb (Nat.le_of_lt hp.lt)
    exact (hB.trans (hop.below hbs (fun k hk => hp.row.base_le hk))).grown hg (Nat.le_trans hbs hop.1.size) (fun j hj => by cases hj; exact hp.hb)
theorem map_ne_row {x : World} {base m n : Nat} {e : TypeId} {k sz : Nat} {u : Value} {f : Pv → Int} {xs : List Value} (h : VNum x m n f) (hr : x.ownsRow base e sz u k xs) : u.ownBlock ≠ some m := by
  intro e1
  rcases hr.2 with ⟨rfl, _⟩ | ⟨g, cap, cur, rfl, _, h2, _⟩
  · cases e1
  · obtain ⟨D, ⟨es, clock, hb, _⟩, _⟩ := h
    cases e1
    rw [hb] at h2
    cases h2
theorem pool_step {w W2 w5 x6 : World} {base b m n nx : Nat} {u u9 : Value} {P D : List Pv} {v : Pv} (hr : VRow W2 base u (P ++ [v])) (h9 : VRow W2 base u9 D) (hn : VNum W2 m n (fun x => ((Pv.num P x : Nat) : Int))) (hB : Below base w W2) (hK : MapsKept m w W2) (hbb : base ≤ W2.heap.size) (hb : base ≤ b) (hm : base ≤ m) (hnn : n ≤ P.length)
    (hg5 : W2.grownBy w5 (some m)) (hn5 : VNum w5 m (n + 1) (fun x => if x = v then (nx : Int) else ((Pv.num P x : Nat) : Int))) (hnew : v ∉ P) (hnx : nx = 1 + (P.map Pv.room).sum)
    {cur5 : Array Value} (hb5 : w5.heap[b]? = some (.cells cur5 90 (0, 0)))
    (hg6 : w5.grownBy x6 (some b)) (hb6 : x6.heap[b]? = some (.cells #[u, .map (some m), .int .i64 ((nx + v.room : Nat) : Int)] 90 (0, 0))) :
    PoolS x6 base b u m (n + 1) (P ++ [v]) ∧ VRow x6 base u9 D ∧ Below base w x6 ∧ MapsKept m w x6 := by
  have hr5 : VRow w5 base u (P ++ [v]) := hr.kept hg5 (fun k hk e => map_ne_row hn hr (by rw [hk, ← e]))
  have h95 : VRow w5 base u9 D := h9.kept hg5 (fun k hk e => map_ne_row hn h9 (by rw [hk, ← e]))
  have hf : (fun x => if x = v then (nx : Int) else ((Pv.num P x : Nat) : Int)) = fun x => ((Pv.num (P ++ [v]) x : Nat) : Int) := by
    funext x
    rw [num_snoc hnew x, hnx]
  rw [hf] at hn5
  refine ⟨⟨?_, hr5.kept hg6 (fun k hk e => own_ne hr5 hb5 (by decide) (e.trans hk.symm)), hn5.kept hg6 (fun e => hn5.ne hb5 (Option.some.inj e)), hb, hm, by simp; omega⟩, h95.kept hg6 (fun k hk e => own_ne h95 hb5 (by decide) (e.trans hk.symm)), ?_, (hK.trans (.of_grown hg5 (fun k e => by cases e; exact .inl rfl))).trans (.of_grown hg6 (isBox hb5))⟩
  · rw [room_snoc, ← Nat.add_assoc, ← hnx]
    exact hb6
  · exact (hB.grown hg5 hbb (fun j hj => by cases hj; exact hm)).grown hg6 (Nat.le_trans hbb hg5.size) (fun j hj => by cases hj; exact hb)
/-- At a walk's operation: a value is given a number. -/
theorem wpList_numPut {w : World} {ops : Array Oper} {rest : List Oper} {o : Oper} {a : Act} {Q : Exit → Act → World → Prop} (hg : o.guard = none) (m x u : Operand) (hop : o.op = Op.mapUpdate 68 m x u) (b n : Nat) (f : Pv → Int) (v : Pv) (y : Int)
    (hm : a.eval m = .map (some b)) (hown : VNum w b n f) (hn : n < maxLen) (hv : v.fitsK) (hx : a.eval x = vv v) (hu : a.eval u = .int .i64 y) (hy : I64 y)
    (hK : ∀ w', VNum w' b (n + 1) (fun x => if x = v then y else f x) → w.grownBy w' (some b) → wpList Tryz.prog ops Q rest (a.put o.dst undef) w') : wpList Tryz.prog ops Q (o :: rest) a w := by
  obtain ⟨D, h1, h2⟩ := hown
  refine wpList_mapUpdate_own w hg m x u 68 hop 36 3 lawV Tryz.underlying68 RN b n D hm h1 hn (vv v) (.int .i64 y) (kv v) hx hu (keyV hv) (.lit (.int .i64 y)) [] (plainElem_int Tryz.underlying3 (wfI.2 hy)) fun w' r1 r2 => hK w' (VNum.put h1 h2 hv r1) r2
/-- What the call comes to. -/
def NumOk (base b m : Nat) (O l : List Pv) (w : World) (e : Ending) (w' : World) : Prop :=
  ∃ u n, e = .returned (.tuple #[]) ∧ PoolS w' base b u m n (O ++ sd Pv.lt l) ∧ Below base w w' ∧ MapsKept m w w' ∧ ∀ k, u.ownBlock = some k → k < w'.heap.size
set_option maxHeartbeats 8000000 in
set_option maxRecDepth 100000 in
theorem number_any (_w0 : World) (base b m n : Nat) (u u1 : Value) (O l : List Pv) (w : World) (hp : PoolS w base b u m n O) (hl : VRow w base u1 l) (ha : ApartOf u1 [u]) (ha2 : ApartOf u [u1]) (hn : l.length ≤ 100000) (hO : O.length ≤ 100000)
    (hd : ∀ x ∈ l, x ∉ O) (hf : ∀ x ∈ l, x.fitsK) :
    Calls Tryz.prog 43 #[.pointer (some ⟨b, 0, none⟩), u1] w (NumOk base b m O l w) := by
  have HP := Lib.hid hp
  have HL := Lib.hid hl
  have HA := Lib.hid ha
  have HA2 := Lib.hid ha2
  have HD := Lib.hid hd
  have HF := Lib.hid hf
  have hbz := hp.lt
  have hbb : base ≤ w.heap.size := Nat.le_trans hp.hb (Nat.le_of_lt hp.lt)
  have HSO := Lib.hid (sort_any base u1 l w hl (by omega))
  clear hp hl ha ha2 hd hf
  go_enter Tryz.func43, Tryz.ntmps43
  go_wp2_with fail
  refine HSO.out.mono ?_
  rintro e w1 ⟨l', rfl, hr1, hpm, hpw, hg1⟩
  have HP1 := Lib.hid (HP.out.kept HL.out hg1 HA.out)
  have hB1 := Lib.hid ((Below.refl base w).grown hg1 hbb (fun k hk => HL.out.base_le hk))
  have hK1 := Lib.hid (MapsKept.of_grown hg1 (HL.out.isRow m))
  have HCM := Lib.hid (compact_any base u1 l' w1 hr1 (by rw [hpm.length_eq]; omega))
  have HSD := Lib.hid (compact_sd hpw hpm)
  have HL1 := Lib.hid hr1
  clear hr1 hpm hpw hg1 HSO
  go_wp2_with fail
  refine HCM.out.mono ?_
  rintro e w2 ⟨u9, rfl, hr2, hg2, ho2⟩
  rw [HSD.out] at hr2
  have HP2 := Lib.hid (HP1.out.kept HL1.out hg2 HA.out)
  have hB2 := Lib.hid (hB1.out.trans ((Below.refl base w1).grown hg2 (Nat.le_trans hbb hB1.out.size) (fun k hk => HL1.out.base_le hk)))
  have hK2 := Lib.hid (hK1.out.trans (.of_grown hg2 (HL1.out.isRow m)))
  obtain ⟨A9, c9, rfl, hV9, hA9⟩ := hr2.reads
  have H9 := Lib.hid hr2
  have HAP := Lib.hid (show ApartOf u [.slice A9 (sd Pv.lt l).length c9] from fun k hk v hv e => by
    rw [List.mem_singleton] at hv
    subst hv
    exact HA2.out k hk u1 (by simp) (ho2 ▸ e))
  have HDD := Lib.hid (show ∀ x ∈ sd Pv.lt l, x ∉ O ∧ x.fitsK from fun x hx => ⟨HD.out x ((sd_mem Pv.lin _ _).1 hx), HF.out x ((sd_mem Pv.lin _ _).1 hx)⟩)
  have HND := Lib.hid (rises_nodup Pv.lin (sd_rises Pv.lin l))
  have hsl := putO_fold_len l []
  rw [List.length_nil, Nat.zero_add, show l.foldl (putO Pv.lt) [] = sd Pv.lt l from rfl] at hsl
  have HQ := Lib.hid (show NumOk base b m O l w = fun e w' => ∃ u n, e = .returned (.tuple #[]) ∧ PoolS w' base b u m n (O ++ sd Pv.lt l) ∧ Below base w w' ∧ MapsKept m w w' ∧ ∀ k, u.ownBlock = some k → k < w'.heap.size from rfl)
  clear hr2 hg2 ho2 hV9 hA9 HP1 HL1 HCM HL HP HA HA2
  generalize hDg : sd Pv.lt l = D at *
  have HDG := Lib.hid hDg
  clear hDg
  go_wp2_with fail
  have HST := Lib.hid (show ∃ (i : Nat) (u : Value) (n : Nat), i ≤ D.length ∧ (Value.int .i64 0) = .int .i64 i ∧ PoolS w2 base b u m n (O ++ D.take i) ∧ VRow w2 base (.slice A9 D.length c9) D ∧ ApartOf u [.slice A9 D.length c9] ∧ Below base w w2 ∧ MapsKept m w w2 from
    ⟨0, u, n, Nat.zero_le _, rfl, by simpa using HP2.out, H9.out, HAP.out, hB2.out, hK2.out⟩)
  clear HP2 H9 HAP hB1 hB2
  go_loopw [11] (fun t wx => ∃ (i : Nat) (u : Value) (n : Nat), i ≤ D.length ∧ t = .int .i64 i ∧ PoolS wx base b u m n (O ++ D.take i) ∧ VRow wx base (.slice A9 D.length c9) D ∧ ApartOf u [.slice A9 D.length c9] ∧ Below base w wx ∧ MapsKept m w wx) (fun t _ => D.length - (intOf t).toNat)
  case atStart => exact HST.out
  case round =>
    clear HST
    obtain ⟨i, u, n, hi, rfl, hp, h9, hap, hB, hK⟩ := hrel
    have HK := Lib.hid hK
    clear hK
    have HP := Lib.hid hp
    have H9 := Lib.hid h9
    have HAP := Lib.hid hap
    have HB := Lib.hid hB
    have hon := hp.hn
    have hol : (O ++ D.take i).length ≤ 200000 := by rw [List.length_append, List.length_take]; omega
    clear hp h9 hap hB
    by_cases hlt : i < D.length
    · obtain ⟨g, o, v, e9, hg, hv, c0, c1, c2, c3, c4, c5⟩ := H9.out.vals.at_ hlt
      subst e9
      have p1 : decide ((i : Int) < (D.length : Int)) = true := decide_eq_true (by omega)
      have p2 : decide (i < D.length) = true := decide_eq_true hlt
      have hsn : O ++ D.take (i + 1) = (O ++ D.take i) ++ [v] := by
        obtain ⟨a1, rfl⟩ := List.getElem?_eq_some_iff.1 hv
        rw [List.take_succ_eq_append_getElem a1, List.append_assoc]
      have hnew : v ∉ O ++ D.take i := by
        intro hin
        rcases List.mem_append.1 hin with h | h
        · exact (HDD.out v (List.mem_of_getElem? hv)).1 h
        · obtain ⟨a1, a2⟩ := List.getElem?_eq_some_iff.1 hv
          obtain ⟨j, hj, e⟩ := List.mem_iff_getElem.1 h
          rw [List.length_take] at hj
          rw [List.getElem_take] at e
          have := (List.pairwise_iff_getElem.1 HND.out) j i (by omega) a1 (by omega)
          exact this (e.trans a2.symm)
      have HSN := Lib.hid hsn
      have HNW := Lib.hid hnew
      have HFK := Lib.hid (HDD.out v (List.mem_of_getElem? hv)).2
      clear hsn hnew hv
      generalize O ++ D.take i = P at *
      have hrm := room_le P
      obtain ⟨nx, hnx⟩ : ∃ nx, nx = 1 + (P.map Pv.room).sum := ⟨_, rfl⟩
      have hnb : nx ≤ 400001 := by omega
      have HNX := Lib.hid hnx
      have k1 := Lib.hid ((Below.refl wr.heap.size wr).alloc (Nat.le_refl _) (.cells #[.int .i64 v.tag, .string (bs v.text), .int .u64 v.bits, .string (bs v.cls), .string (bs v.name), .string (bs v.desc)] 36))
      have q1 := Lib.hid (vbox_new wr v)
      have hbx := HP.out.box
      rw [← hnx] at hbx
      have HBX := Lib.hid hbx
      have hbz2 := HP.out.lt
      have hbase := HP.out.hb
      have hbwr := HB.out.size
      clear hnx hbx hrm
      go_upto_region 4 with fail
      go_cut [11] from 11 to 51 (fun s11 wx => s11 = .int .i64 i ∧ Mid w base b m n wr.heap.size nx (fun x => ((Pv.num P x : Nat) : Int)) (P ++ [v]) (.slice (some ⟨g, o, none⟩) D.length c9) D v wx)
      case first =>
        have hb1 := (k1.out.block b hbz2).trans HBX.out
        have hb1' : wr.drew.heap.size = wr.heap.size := rfl
        have d0 := (blk_facts hb1).1 0
        have f0 := (blk_facts hb1).2 0
        have hq1 := q1.out.lt
        have hq := q1.out.at_
        obtain ⟨e0, e1, e2, e3, e4, e5⟩ := hq
        clear c0 c1 c2 c3 c4 c5 hb1
        go_region_law ((first
          | (refine step_appV rfl _ _ rfl base u P rfl (HP.out.row.grow (by (repeat (first | exact Below.refl _ _ | exact k1.out | refine Below.drew ?_ | refine Below.alloc ?_ ?_ _)); (all_goals (first | omega | (simp; done) | (simp; omega))))) _ [v] rfl (src_val (by (first | exact heap_alloc2_new _ _ _ | exact heap_alloc2_old _ _ _ | exact heap_alloc_new _ _)) 1) (by simp; omega) (by (first | omega | (simp; done) | (simp; omega))) ?_; intro v7 x7 hr7 hp7; obtain ⟨A7, c7, e7, hV7, hA7⟩ := hr7.reads; subst e7; clear hV7 hA7; have hb7 := app_kept hp7 (show Below wr.heap.size wr _ from by (repeat (first | exact Below.refl _ _ | exact k1.out | refine Below.drew ?_ | refine Below.alloc ?_ ?_ _)); (all_goals (first | omega | (simp; done) | (simp; omega)))) HP.out.row HBX.out (by decide); have d7 := (blk_facts hb7).1 0; have f7 := (blk_facts hb7).2 0; have hv7 := app_box hp7 (show Below (wr.alloc (.cells #[.int .i64 v.tag, .string (bs v.text), .int .u64 v.bits, .string (bs v.cls), .string (bs v.name), .string (bs v.desc)] 36)).heap.size (wr.alloc (.cells #[.int .i64 v.tag, .string (bs v.text), .int .u64 v.bits, .string (bs v.cls), .string (bs v.name), .string (bs v.desc)] 36)) _ from by (repeat (first | exact Below.refl _ _ | refine Below.drew ?_ | refine Below.alloc ?_ ?_ _)); (all_goals (first | omega | (simp; done) | (simp; omega)))) HP.out.row; have HV7 := Lib.hid hv7; have HB7 := Lib.hid hb7; have HR7 := Lib.hid hr7; clear hv7 hr7; have GRO := Lib.hid (app_grown hp7 (show Below wr.heap.size wr _ from by (repeat (first | exact Below.refl _ _ | exact k1.out | refine Below.drew ?_ | refine Below.alloc ?_ ?_ _)); (all_goals (first | omega | (simp; done) | (simp; omega))))))
          | (go_must (trace_state; fail))))
        all_goals
          go_wp2_with fail
          clear d7 f7 hb7
          have hmid := mid_mk HP.out H9.out HAP.out HB.out HK.out GRO.out HR7.out HB7.out HV7.out
          rw [List.length_append] at hmid
          go_meet
          case rel => exact ⟨rfl, hmid⟩
      case rest =>
        obtain ⟨rfl, u', hbx, hru, hnu, h9', hap', hvb, hB', hK'⟩ := hcut
        have MK := Lib.hid hK'
        clear hK'
        have MR := Lib.hid hru
        have MN := Lib.hid hnu
        have M9 := Lib.hid h9'
        have MA := Lib.hid hap'
        have MV := Lib.hid hvb
        have MB := Lib.hid hB'
        have MX := Lib.hid hbx
        have m0 := (blk_facts hbx).1 0
        have m1 := (blk_facts hbx).1 1
        have m2 := (blk_facts hbx).1 2
        obtain ⟨d0, d1, d2, d3, d4, d5⟩ := hvb.at_
        have hvz := hvb.lt
        have hbc := (Array.getElem?_eq_some_iff.1 hbx).1
        have hmne := hnu.ne hbx
        have HMNE := Lib.hid hmne
        have hm1 : n < maxLen := by unfold maxLen; have := HP.out.hn; omega
        have HM1 := Lib.hid hm1
        have HI64 := Lib.hid (show I64 (nx : Int) by unfold I64; omega)
        clear hbx hru hnu h9' hap' hvb hB' hmne hm1 c0 c1 c2 c3 c4 c5
        go_wp2_with fail
        refine wp_region_draw_tail 9 (by kernel_rfl) (by kernel_rfl) ?_
        simp only [List.take_succ_cons, List.take_zero, List.drop_succ_cons, List.drop_zero]
        repeat (go_big_quiet_step (fail))
        refine wpQuiet_nil ?_
        intro q1
        have NR := Lib.hid (show VRow (wc.drewN q1) base u' (P ++ [v]) from MR.out)
        have NN := Lib.hid (show VNum (wc.drewN q1) m n (fun x => ((Pv.num P x : Nat) : Int)) from MN.out)
        have N9 := Lib.hid (show VRow (wc.drewN q1) base (.slice (some ⟨g, o, none⟩) D.length c9) D from M9.out)
        have NV := Lib.hid (show VBox (wc.drewN q1) wr.heap.size v from MV.out)
        have NX := Lib.hid (show (wc.drewN q1).heap[b]? = some (.cells #[u', .map (some m), .int .i64 (nx : Int)] 90 (0, 0)) from MX.out)
        have NB := Lib.hid (below_drewN MB.out q1)
        have NK := Lib.hid (show MapsKept m w (wc.drewN q1) from MK.out)
        clear MK
        clear MR MN M9 MV MX MB m0 m1 m2 d0 d1 d2 d3 d4 d5 hvz hbc
        generalize wc.drewN q1 = W2 at *
        have hmv := NN.out.ne NV.out
        have HMV := Lib.hid hmv
        have hrl : P.length ≤ 200000 := hol
        have hbne : ¬ b = wr.heap.size := by omega
        have hbne' : ¬ wr.heap.size = b := by omega
        clear hmv
        go_wp2_with (at_mapUpdate; refine wpList_numPut rfl _ _ _ rfl m n (fun x => ((Pv.num P x : Nat) : Int)) v nx rfl NN.out HM1.out HFK.out rfl rfl HI64.out ?_; intro w5 hn5 hg5; have hb5 := (hg5.block b (Array.getElem?_eq_some_iff.1 NX.out).1 (fun e => HMNE.out (Option.some.inj e).symm)).trans NX.out; have m2 := (blk_facts hb5).1 2; have g2 := (blk_facts hb5).2 2; have hv5 : VBox w5 wr.heap.size v := (hg5.block _ NV.out.lt (fun e => HMV.out (Option.some.inj e).symm)).trans NV.out; obtain ⟨d0, d1, d2, d3, d4, d5⟩ := hv5.at_; have hvz := hv5.lt; have HB5 := Lib.hid hb5; have HG5 := Lib.hid hg5; have HN5 := Lib.hid hn5; have HV5 := Lib.hid hv5; clear hb5 hg5 hn5 hv5)
        refine (wide_any v.tag _).mono ?_
        rintro e w6 ⟨rfl, rfl⟩
        have hb6 := box_set HB5.out (o := 2) (.int .i64 ((nx : Int) + 1)) rfl
        have hg6 := grownBy_setBox w5 b 2 HB5.out (.int .i64 ((nx : Int) + 1))
        have hb7 := box_set hb6 (o := 2) (.int .i64 ((nx : Int) + 1 + 1)) rfl
        have hg7 := grownBy_setBox _ b 2 hb6 (.int .i64 ((nx : Int) + 1 + 1))
        have hbase2 : base ≤ W2.heap.size := Nat.le_trans hbase (Nat.le_of_lt (Array.getElem?_eq_some_iff.1 NX.out).1)
        cases hw : v.wide with
        | true =>
          have hroom : v.room = 2 := by unfold Pv.room; rw [hw]; rfl
          have hwt : (v.tag == 5 || v.tag == 6) = true := hw
          have HST := Lib.hid (pool_step (v := v) NR.out N9.out NN.out NB.out NK.out hbase2 hbase HP.out.hm HP.out.hn HG5.out HN5.out HNW.out HNX.out HB5.out (grownBy_trans hg6 hg7 (.inl rfl)) (by
            rw [hroom]
            have : ((nx + 2 : Nat) : Int) = (nx : Int) + 1 + 1 := by omega
            rw [this]; exact hb7))
          have m3 := (blk_facts hb6).1 2
          have g3 := (blk_facts hb6).2 2
          rw [hwt]
          clear hb6 hg6 hb7 hg7 hw hroom hwt m2 g2 d0 d1 d2 d3 d4 d5
          go_wp2_with fail
          go_roundw
          case rel => exact ⟨i + 1, u', n + 1, by omega, by go_num, by rw [HSN.out]; exact HST.out.1, HST.out.2.1, MA.out, HST.out.2.2.1, HST.out.2.2.2⟩
          case measure => simp [intOf]; omega
        | false =>
          have hroom : v.room = 1 := by unfold Pv.room; rw [hw]; rfl
          have hwt : (v.tag == 5 || v.tag == 6) = false := hw
          have HST := Lib.hid (pool_step (v := v) NR.out N9.out NN.out NB.out NK.out hbase2 hbase HP.out.hm HP.out.hn HG5.out HN5.out HNW.out HNX.out HB5.out hg6 (by
            rw [hroom]
            have : ((nx + 1 : Nat) : Int) = (nx : Int) + 1 := by omega
            rw [this]; exact hb6))
          rw [hwt]
          clear hb6 hg6 hb7 hg7 hw hroom hwt m2 g2 d0 d1 d2 d3 d4 d5
          go_wp2_with fail
          go_roundw
          case rel => exact ⟨i + 1, u', n + 1, by omega, by go_num, by rw [HSN.out]; exact HST.out.1, HST.out.2.1, MA.out, HST.out.2.2.1, HST.out.2.2.2⟩
          case measure => simp [intOf]; omega
    · obtain rfl : i = D.length := by omega
      have p1 : decide ((D.length : Int) < (D.length : Int)) = false := decide_eq_false (by omega)
      have p2 : decide (D.length < D.length) = false := decide_eq_false (by omega)
      rw [List.take_length] at HP
      have HPD := Lib.hid (show PoolS wr base b u m n (O ++ sd Pv.lt l) by rw [HDG.out]; exact HP.out)
      go_wp2
      go_end0
      exact ⟨u, n, rfl, HPD.out, HB.out, HK.out, fun k hk => HPD.out.row.lt hk⟩
end Go.Proofs.YtkdamaomhppkgaaGreat

/- A range over a function whose loop variable is boxed anew each round (a struct), with no early end: what the caller owes. No program. -/
namespace Go.Proofs.YtkdamaomhppkgaaGreat
open Go.RowKit
section
variable {P : Program} {α : Type}

/-- How a round is left. -/
def boxedEnds (I : List α → World → Prop) (xs : List α) (Z : World) : Exit → Act → World → Prop
  | .normal, _, Y => KeepsOthers Z Y ∧ I xs Y
  | _, _, _ => False
/-- What is said of the world stays so while blocks that hold no cells, laid behind N, turn. -/
def CalmB (N : Nat) (I : List α → World → Prop) : Prop :=
  ∀ s X Y row, I s X → X.grownBy Y row → (∀ r, row = some r → N ≤ r ∧ ∃ o : Obj, X.heap[r]? = some o ∧ o.isCells = false) → I s Y
theorem CalmB.turn {N : Nat} {I : List α → World → Prop} (h : CalmB N I) {s : List α} {X : World} {l : Nat} {o : Obj} (o' : Obj) (hs : I s X) (hN : N ≤ l) (hl : X.heap[l]? = some o) (ho : o.isCells = false) : I s (X.putObj l o') :=
  h s X _ (some l) hs (grownBy_putObj' X l o') fun r e => by cases e; exact ⟨hN, o, hl, ho⟩
theorem walk_not_cells {o : Obj} (h : o.isWalk = true) : o.isCells = false := by cases o <;> simp_all [Obj.isWalk, Obj.isCells]

theorem wpIn_rangeBoxed {g : Operand} {ps : Array Tmp} {assign body : Code} {Q : Exit → Act → World → Prop} {a : Act} {w : World}
    {gf : Nat} {lb : Array Value} (hg : a.eval g = .func (.func gf) #[] lb) (eg : ∀ args w, (callFunc gf args).run P w = .ok (.enter gf args) w)
    {enc : α → Value} {S : List α → Prop} {N : Nat} {w0 : World} (hseq : SeqGives Fence.wide 2 P gf lb enc S N w0) (hb0 : Below w0.heap.size w0 w) (hps : ps.size = 1)
    (I : List α → World → Prop) (hI : CalmB w.heap.size I) (h0 : I [] w) (A : α → Nat → Act) (ob : α → Obj)
    (hassign : ∀ (l : Nat) (x : α) (X : World) (K : Act → World → Prop), K (A x X.heap.size) (X.alloc (ob x)) →
      assign.wpIn (Fence.wide.inRound l) 1 P (Exit.then K (fun _ _ _ => False)) { tmps := (ps.zip #[enc x]).foldl (fun t (p, v) => t.setIfInBounds p v) a.tmps, defers := [] } X)
    (hbody : ∀ (l B : Nat) (pre : List α) (x : α) (Z : World), I pre Z → pre.length < N → w.heap.size ≤ B → Z.heap[B]? = some (ob x) →
      body.wpIn (Fence.wide.inRound l) 1 P (boxedEnds I (pre ++ [x]) Z) (A x B) Z)
    (hdone : ∀ (D : Nat) (xs : List α) (X : World), w.heap.size ≤ D → S xs → I xs X → X.heap[D]? = some (.deferred (some [])) → Q .normal { a with defers := { target := .collected D, args := #[] } :: a.defers } X) :
    (Code.rangeFunc g ps assign body).wpIn Fence.wide 3 P Q a w := by
  refine wpIn_rangeFunc fun fn hfn => ?_
  let rc : LoopState → Option Code → Loop := fun st pe => { state := st, pending := pe, fn, tmps := a.tmps, params := ps, assign, body, defers := w.heap.size }
  have hsz1 : ((w.alloc (.deferred (some []))).alloc (.loop (rc .ready none))).heap.size = w.heap.size + 2 := by simp
  have hrecd : ((w.alloc (.deferred (some []))).alloc (.loop (rc .ready none))).heap[w.heap.size + 1]? = some (.loop (rc .ready none)) := by
    have := World.alloc_heap_new (w.alloc (.deferred (some []))) (.loop (rc .ready none)); rwa [World.size_alloc] at this
  have hdef : ((w.alloc (.deferred (some []))).alloc (.loop (rc .ready none))).heap[w.heap.size]? = some (.deferred (some [])) :=
    (Below.heap_alloc _ _ _ (by simp)).trans (World.alloc_heap_new w _)
  have hb1 : Below w0.heap.size w0 ((w.alloc (.deferred (some []))).alloc (.loop (rc .ready none))) :=
    (hb0.alloc hb0.size _).alloc (by have := hb0.size; simp; omega) _
  have hI1 : I [] ((w.alloc (.deferred (some []))).alloc (.loop (rc .ready none))) :=
    hI [] _ _ none (hI [] _ _ none h0 (World.grownBy_alloc w _ none) (fun r e => by cases e)) (World.grownBy_alloc _ _ none) (fun r e => by cases e)
  have hent : (Instr.enterLoop fn a.tmps ps assign body none).run P w = .ok (w.heap.size + 1, [{ target := .collected w.heap.size, args := #[] }]) ((w.alloc (.deferred (some []))).alloc (.loop (rc .ready none))) :=
    run_enterLoop_outer (P := P) (w := w) fn a.tmps ps assign body
  generalize (w.alloc (.deferred (some []))).alloc (.loop (rc .ready none)) = W1 at hsz1 hrecd hdef hb1 hI1 hent
  refine ⟨w.heap.size + 1, [{ target := .collected w.heap.size, args := #[] }], W1, { target := .fn (.func gf) lb, args := #[.func (.yield (w.heap.size + 1)) #[] #[]] }, W1, gf,
    #[.func (.yield (w.heap.size + 1)) #[] #[]] ++ lb, W1, hent, ?_, fun f' _ => trivial, ?_, fun h => absurd h (by simp [Fence.wide]), ?_⟩
  · simp only [resolve, hg]
    simp [go_sem]
  · simp [invoke, go_sem, eg]
  refine (hseq (w.heap.size + 1)
    (fun pre X => I pre X ∧ X.heap[w.heap.size + 1]? = some (.loop (rc .ready none)) ∧ X.heap[w.heap.size]? = some (.deferred (some [])))
    W1 hb1
    (fun s X Y row h hgr hrow => by
      have kk : ∀ {k : Nat} {o : Obj}, X.heap[k]? = some o → k < W1.heap.size → Y.heap[k]? = some o := fun hk hlt => (hgr.block _ (Array.getElem?_eq_some_iff.1 hk).1 (fun e => by
        have := (hrow _ e.symm).1
        omega)).trans hk
      exact ⟨hI s X Y row h.1 hgr (fun r e => by
        obtain ⟨h1, o, h2, h3⟩ := hrow r e
        exact ⟨by omega, o, h2, walk_not_cells h3⟩), kk h.2.1 (by omega), kk h.2.2 (by omega)⟩)
    ?_ ⟨hI1, hrecd, hdef⟩).mono ?_
  · -- one round
    rintro pre x X ⟨hi, hl, hk⟩ hpx
    have hlt := (Array.getElem?_eq_some_iff.1 hl).1
    have hbs : w.heap.size + 1 < X.heap.size := hlt
    have hga : X.grownBy (X.alloc (ob x)) none := World.grownBy_alloc X _ none
    have hi' : I pre (X.alloc (ob x)) := hI pre _ _ none hi hga (fun r e => by cases e)
    have hl' : (X.alloc (ob x)).heap[w.heap.size + 1]? = some (.loop (rc .ready none)) := (hga.block _ hlt (by simp)).trans hl
    have hk' : (X.alloc (ob x)).heap[w.heap.size]? = some (.deferred (some [])) := (hga.block _ (Array.getElem?_eq_some_iff.1 hk).1 (by simp)).trans hk
    have ho' : (X.alloc (ob x)).heap[X.heap.size]? = some (ob x) := World.alloc_heap_new X _
    refine ⟨fn, _, assign, body, run_yield (P := P) (args := #[enc x]) hl (by simp [rc, hps]), roundIn_of_wpIn hfn (hassign _ x X _ ⟨_, run_beginRound hl' rfl, ?_⟩)⟩
    have hlt' := (Array.getElem?_eq_some_iff.1 hl').1
    have b1 : ((X.alloc (ob x)).putObj (w.heap.size + 1) (.loop (rc .busy none))).heap[w.heap.size + 1]? = some (.loop (rc .busy none)) := World.putObj_heap_same hlt'
    have b2 : ((X.alloc (ob x)).putObj (w.heap.size + 1) (.loop (rc .busy none))).heap[w.heap.size]? = some (.deferred (some [])) := (World.putObj_heap_other (by omega)).trans hk'
    have b3 : ((X.alloc (ob x)).putObj (w.heap.size + 1) (.loop (rc .busy none))).heap[X.heap.size]? = some (ob x) := (World.putObj_heap_other (by omega)).trans ho'
    refine wpIn_mono (hbody _ X.heap.size pre x _ (hI.turn _ hi' (by omega) hl' rfl) hpx (by omega) b3) ?_
    rintro e a3 Y hp
    cases e with
    | normal =>
      obtain ⟨k1, k3⟩ := hp
      have l3 := k1.same _ _ b1 rfl
      have d3 := k1.same _ _ b2 rfl
      have l4 := World.putObj_heap_same (w := Y) (o := .loop (rc .ready none)) (Array.getElem?_eq_some_iff.1 l3).1
      refine ⟨_, _, run_endRound (P := P) none l3, rfl, ⟨hI.turn _ k3 (by omega) l3 rfl, l4, (World.putObj_heap_other (by omega)).trans d3⟩, ?_⟩
      refine ⟨?_, fun k o hk2 ho2 => ?_⟩
      · have h1 := k1.size
        have h2 := hga.size
        simp only [World.putObj_size] at h1 ⊢
        omega
      · by_cases e : k = w.heap.size + 1
        · subst e
          rw [hl] at hk2
          cases hk2
          exact l4
        · have h1 : (X.alloc (ob x)).heap[k]? = some o := (hga.block _ (Array.getElem?_eq_some_iff.1 hk2).1 (by simp)).trans hk2
          have h2 : ((X.alloc (ob x)).putObj (w.heap.size + 1) (.loop (rc .busy none))).heap[k]? = some o := (World.putObj_heap_other (by omega)).trans h1
          exact (World.putObj_heap_other (by omega)).trans (k1.same _ _ h2 (walk_not_cells ho2))
    | ret => exact hp.elim
    | exit id => exact hp.elim
    | goto t => exact hp.elim
    | panic c => exact hp.elim
    | outgrown => exact hp.elim
  · -- behind the iterator
    rintro e X ⟨⟨v, rfl⟩, xs, hS, hi, hl, hk⟩
    exact ⟨none, _, run_endLoop (P := P) hl (by simp [rc]), hdone _ _ _ (Nat.le_refl _) hS (hI.turn _ hi (by omega) hl rfl) ((World.putObj_heap_other (by omega)).trans hk)⟩
end
end Go.Proofs.YtkdamaomhppkgaaGreat

/- The walks of the library: the values of a set, collected. -/
namespace Go.Proofs.YtkdamaomhppkgaaGreat
open Go.RowKit Go.Maps

/-- Which values have come: those that are no longer to come. -/
def CollV (D0 : DataW Unit) (left : Lit → Bool) (ss : List Pv) : Prop := ss.Nodup ∧ (∀ x ∈ ss, x.fitsK) ∧ ∀ x : Pv, x.fitsK → (x ∈ ss ↔ (Maps.has D0 (kv x) = true ∧ left (kv x) = false))
theorem CollV.start (D0 : DataW Unit) : CollV D0 (Maps.has D0) [] := ⟨List.nodup_nil, by simp, fun x _ => by cases Maps.has D0 (kv x) <;> simp⟩
theorem CollV.step {D0 : DataW Unit} {left : Lit → Bool} {ss : List Pv} (h : CollV D0 left ss) {x : Pv} (hx : x.fitsK) {y : DataW Unit} (hlk : left (kv x) = true) (hat : ∀ zd, D0.atKey (kv x) zd = y) : CollV D0 (fun z => left z && !z.sameKey (kv x)) (ss ++ [x]) := by
  obtain ⟨h1, h2, h3⟩ := h
  have hhas : Maps.has D0 (kv x) = true := has_true_of_atKey hat
  have hnew : x ∉ ss := fun hi => by
    have := ((h3 x hx).1 hi).2
    rw [hlk] at this
    cases this
  refine ⟨List.nodup_append.2 ⟨h1, by simp, fun a ha b hb => by simp at hb; subst hb; exact fun e => hnew (e ▸ ha)⟩, fun z hz => ?_, fun z hz => ?_⟩
  · rcases List.mem_append.1 hz with hz | hz
    · exact h2 z hz
    · rw [List.mem_singleton] at hz; subst hz; exact hx
  · rw [List.mem_append, List.mem_singleton, h3 z hz]
    by_cases e : z = x
    · subst e
      have : (kv z).sameKey (kv z) = true := WideAt.sameKey_self (isKeyV z)
      simp [hhas, this]
    · have : (kv z).sameKey (kv x) = false := by
        rw [Bool.eq_false_iff]
        exact fun hs => e (kv_inj hz hx (WideAt.sameKey_eq hs))
      simp [e, this]
/-- All have come. -/
def AllOf (S : Pv → Bool) (ss : List Pv) : Prop := ss.Nodup ∧ (∀ x ∈ ss, x.fitsK) ∧ ∀ x : Pv, x.fitsK → (x ∈ ss ↔ S x = true)
theorem CollV.fin {D0 : DataW Unit} {left : Lit → Bool} {ss : List Pv} {S : Pv → Bool} (h : CollV D0 left ss) (hS : SetIs D0 S) (hl : ∀ kl, left kl = false) : AllOf S ss :=
  ⟨h.1, h.2.1, fun x hx => by rw [h.2.2 x hx, hl, hS.2 x hx]; simp⟩

set_option maxRecDepth 100000 in
set_option maxHeartbeats 2000000 in
/-- The iterator over a set's values. -/
theorem keys1_in (l Bm b nn : Nat) (D0 : DataW Unit) (S : Pv → Bool) (hS : SetIs D0 S) (J : List Pv → World → Prop) (W : World)
    (hY : ∀ pre x X, J pre X → pre.length < Maps.size D0 → YieldAt Fence.wide 1 Tryz.prog l #[vv x] X fun e X' => e = .returned (.bool true) ∧ J (pre ++ [x]) X' ∧ KeepsWalks X X')
    (hJ : AbidesFrom W.heap.size J) (hm : W.cell? ⟨Bm, 0, none⟩ = some (.map (some b))) (hown : W.ownsMap Tryz.prog 36 RB b nn D0) (h0 : J [] W) :
    CallsIn Fence.wide 2 Tryz.prog 47 #[.func (.yield l) #[] #[], .pointer (some ⟨Bm, 0, none⟩)] W fun e W' => (∃ v, e = .returned v) ∧ ∃ ss : List Pv, AllOf S ss ∧ J ss W' := by
  refine callsIn_of_wp Tryz.func47 rfl trivial ?_ rfl
  simp only [Tryz.ntmps47, List.size_toArray, List.length_cons, List.length_nil, Nat.reduceAdd, Nat.reduceSub, Array.replicate_succ, Array.replicate_zero, List.push_toArray, List.append_toArray, List.nil_append, List.cons_append]
  gi_wp2_with (first
    | (gi_at_range; refine wpListIn_range_own _ rfl _ 53 rfl 36 4 lawV Tryz.underlying53 RB b nn _ rfl hown ?_; intro w0 hrg0 hg0 hs0)
    | gi_in)
  go_frame
  gi_loopw [3] (fun _ wr => ∃ (left : Lit → Bool) (cnt : Nat) (ss : List Pv), wr.ranges Tryz.prog 36 RB b W.heap.size nn D0 left cnt ∧ ss.length + cnt ≤ Maps.size D0 ∧ CollV D0 left ss ∧ J ss wr)
    (fun _ wr => wr.rangeLeft b W.heap.size)
  case atStart =>
    exact ⟨_, _, [], hrg0, by simp, CollV.start D0, hJ [] W w0 none h0 hg0 (fun r e => by cases e)⟩
  case round =>
    obtain ⟨left, cnt, ss, hrg, hcs, hC, hJs⟩ := hrel
    gi_wp2_with (first
      | (gi_at_next; refine wpListIn_next_ranges _ rfl _ rfl 36 lawV RB vv id (fun key kl hk => by obtain ⟨x, _, hx, _⟩ := keyV_inv hk; exact ⟨x, hx⟩) (fun v _ _ => ⟨v, rfl⟩) b W.heap.size nn _ _ _ rfl hrg ?_ ?_)
      | gi_in)
    · intro hc0 hl0
      gi_wp2
      go_end0
      exact ⟨⟨_, rfl⟩, ss, hC.fin hS hl0, hJs⟩
    · intro x c kl yd yp w2 cnt2 hkey hlk hv hat hrg2 hlt hg2 hs2 hen
      obtain ⟨x', hxf, ex, rfl⟩ := keyV_inv hkey
      obtain rfl : x = x' := vv_inj ex
      have hJ2 : J ss w2 := hJ ss wr w2 (some W.heap.size) hJs hg2 (fun r e => by cases e; exact ⟨Nat.le_refl _, hrg.iter_walk⟩)
      have hJ3 : J ss (w2.alloc (.cells #[.int .i64 x.tag, .string (bs x.text), .int .u64 x.bits, .string (bs x.cls), .string (bs x.name), .string (bs x.desc)] 36)) := hJ ss w2 _ none hJ2 (World.grownBy_alloc w2 _ none) (fun r e => by cases e)
      obtain ⟨fn, tmps, assign, body, hy, hR⟩ := hY ss x (w2.alloc (.cells #[.int .i64 x.tag, .string (bs x.text), .int .u64 x.bits, .string (bs x.cls), .string (bs x.name), .string (bs x.desc)] 36)) hJ3 (by omega)
      have hrg3 := hrg2.of_walks (KeepsWalks.alloc w2 (.cells #[.int .i64 x.tag, .string (bs x.text), .int .u64 x.bits, .string (bs x.cls), .string (bs x.name), .string (bs x.desc)] 36))
      clear hs2
      unfold vv at hen hy
      gi_wp2_with fail
      refine hR.mono ?_
      rintro e W3 ⟨rfl, hJ4, hk3⟩
      gi_wp2
      have hrg4 := hrg3.of_walks hk3
      go_roundw
      case rel => exact ⟨_, cnt2, ss ++ [x], hrg4, by simp; omega, hC.step hxf hlk hat, hJ4⟩
      case measure => rw [hrg4.left_eq, hrg.left_eq]; exact hlt
theorem keys_gives (Bm b nn : Nat) (D0 : DataW Unit) (S : Pv → Bool) (hS : SetIs D0 S) (w : World) (hBm : Bm < w.heap.size) (hm : w.cell? ⟨Bm, 0, none⟩ = some (.map (some b))) (hown : w.ownsMap Tryz.prog 36 RB b nn D0) :
    SeqGives Fence.wide 2 Tryz.prog 47 #[.pointer (some ⟨Bm, 0, none⟩)] vv (AllOf S) (Maps.size D0) w := fun l J W hW hJ hY h0 => by
  have hown' : W.ownsMap Tryz.prog 36 RB b nn D0 := hown.kept (grownBy_below hW none) (by simp)
  exact keys1_in l Bm b nn D0 S hS J W hY hJ ((hW.cell (p := ⟨Bm, 0, none⟩) hBm).trans hm) hown' h0
set_option maxRecDepth 100000 in
theorem keys_any (b : Nat) (w : World) : Calls Tryz.prog 25 #[.map (some b)] w fun e w' => e = .returned (.func (.func 47) #[] #[.pointer (some ⟨w.heap.size, 0, none⟩)]) ∧ w.alloc (.cells #[.map (some b)] 53) = w' := by
  go_enter Tryz.func25, Tryz.ntmps25
  go_wp2
  go_ret
  exact ⟨rfl, rfl⟩
/-- append of whatever values onto an own row, within a fence. -/
theorem wpListIn_appV {F : Fence} {nF : Nat} {w : World} {ops : Array Oper} {rest : List Oper} {o : Oper} {a : Act} {Q : Exit → Act → World → Prop} (hgd : o.guard = none) (s x : Operand)
    (ho : o.op = .call { callee := .builtin .append, args := #[s, x], argTypes := #[22, 22] })
    (base : Nat) (v : Value) (xs : List Pv) (hv : a.eval s = v) (hown : VRow w base v xs) (X : Value) (ys : List Pv) (hX : a.eval x = X)
    (hs : Src Tryz.prog 6 22 X ys.length (vc ys) w) (hn : xs.length + ys.length ≤ 1000000000000) (hbase : base ≤ w.heap.size)
    (h : ∀ v' w', VRow w' base v' (xs ++ ys) → Hop w w' v.ownBlock v'.ownBlock → wpListIn F nF Tryz.prog ops Q rest (a.put o.dst v') w') : wpListIn F nF Tryz.prog ops Q (o :: rest) a w := by
  obtain ⟨i0, hi, hz0, hz1, hz2⟩ := info_parts infoVal
  obtain ⟨v', w', hr, h2, h3⟩ := run_append_row w 22 22 o.type 36 base i0 _ 6 80 Tryz.underlying22 hi hz0 hz1 hz2 rfl v _ _ hown X ys.length (vc ys) hs (by unfold maxLen; omega) (by omega) hbase
  refine wpListIn_plain hgd fun K' hK' => ?_
  unfold Oper.wpIn
  refine ⟨by simp [Oper.about, ho, resolve, Target.leads, Sem.run_pure], ?_⟩
  rw [Oper.semAt_plain F _ _ (by rw [ho]; intro c hc'; cases hc')]
  simp [execOp, ho, resolve, invoke, builtin, hv, hX, hr, Result.andThen]
  exact hK' _ _ (h v' w' (VRow.app h2 rfl) h3)
theorem grownBy_setAtK (w : World) (b o : Nat) {cur : Array Value} {t : TypeId} {fr : Nat × Nat} (h : w.heap[b]? = some (.cells cur t fr)) (v : Value) : w.grownBy (w.setCell ⟨b, o, none⟩ v) (some b) := by
  rw [setCell_eq_setRow w b o cur t fr v h]
  exact ⟨rfl, rfl, rfl, by simp, fun k _ hne => setRow_other w b k _ (fun hh => hne (by rw [hh]))⟩
theorem others_of {Z Y : World} {row : Option Nat} (h : Z.grownBy Y row) (hc : ∀ k, row = some k → ∀ o : Obj, Z.heap[k]? = some o → o.isCells = true) : KeepsOthers Z Y :=
  ⟨h.size, fun k o hk ho => (h.block k (Array.getElem?_eq_some_iff.1 hk).1 (fun e => by
    have := hc k e.symm o hk
    rw [ho] at this
    cases this)).trans hk⟩
theorem VRow.cells {w : World} {base : Nat} {u : Value} {xs : List Pv} (h : VRow w base u xs) : ∀ k, u.ownBlock = some k → ∀ o : Obj, w.heap[k]? = some o → o.isCells = true := by
  intro k hk o ho
  rcases h.2 with ⟨rfl, _⟩ | ⟨g', cap, cur, rfl, _, h3, _⟩
  · cases hk
  · cases hk
    rw [h3] at ho
    cases ho
    rfl
set_option maxRecDepth 100000 in
set_option maxHeartbeats 4000000 in
theorem appendSeq_any (g : Nat) (lb : Array Value) (eg : ∀ args w, (callFunc g args).run Tryz.prog w = .ok (.enter g args) w) (S : List Pv → Prop) (N : Nat) (hN : N ≤ 1000000) (w : World) (hseq : SeqGives Fence.wide 2 Tryz.prog g lb vv S N w) :
    Calls Tryz.prog 70 #[.slice none 0 0, .func (.func g) #[] lb] w fun e w' => ∃ (v : Value) (ss : List Pv), e = .returned v ∧ S ss ∧ VRow w' w.heap.size v ss ∧ ss.length ≤ N ∧ Below w.heap.size w w' := by
  refine (callsIn_wide (n := 3)).1 ?_
  refine callsIn_of_wp_marks Tryz.func70 rfl trivial ?_ rfl
  simp only [Tryz.ntmps70, List.size_toArray, List.length_cons, List.length_nil, Nat.reduceAdd, Nat.reduceSub, Array.replicate_succ, Array.replicate_zero, List.push_toArray, List.append_toArray, List.nil_append, List.cons_append]
  gi_wp2
  have k0 := (Below.refl w.heap.size w).alloc (Nat.le_refl _) (.cells #[.slice none 0 0] 22)
  refine wpIn_rangeBoxed (w0 := w) rfl eg hseq k0 rfl
    (fun ss X => ∃ u, X.heap[w.heap.size]? = some (.cells #[u] 22 (0, 0)) ∧ VRow X w.heap.size u ss ∧ ss.length ≤ N ∧ Below w.heap.size w X) ?_ ?_ (fun x B => { tmps := #[.slice none 0 0, .func (.func g) #[] lb, .pointer (some ⟨w.heap.size, 0, none⟩), undef, .slice none 0 0, .pointer (some ⟨B, 0, none⟩), .func (.func g) #[] lb, vv x, undef, undef, undef, undef, undef], defers := [] })
    (fun x => .cells #[.int .i64 x.tag, .string (bs x.text), .int .u64 x.bits, .string (bs x.cls), .string (bs x.name), .string (bs x.desc)] 36) ?_ ?_ ?_
  · rintro ss X Y row ⟨u, hb, hr, hl, hB⟩ hg hrow
    refine ⟨u, (hg.block _ (Array.getElem?_eq_some_iff.1 hb).1 (fun e => ?_)).trans hb, hr.kept hg (fun k hk e => ?_), hl, hB.grown hg hB.size (fun k e => ?_)⟩
    · have := (hrow _ e.symm).1
      simp at this
      omega
    · obtain ⟨_, o, h1, h2⟩ := hrow k e
      rcases hr.2 with ⟨rfl, _⟩ | ⟨g', cap, cur, rfl, _, h3, _⟩
      · cases hk
      · cases hk
        rw [h1] at h3
        cases h3
        cases h2
    · have := (hrow k e).1
      simp at this
      omega
  · exact ⟨_, heap_alloc_new _ _, VRow.nil _ _, by simp, k0⟩
  · intro l x X K hK
    unfold vv at hK ⊢
    gi_wp2_with (rw [Oper.semAt_eq _ _ _ (fun c h => by cases h)]; go_simp; try go_bits)
    exact hK
  · intro l B pre x Z hI hpre hB hbx
    obtain ⟨u, hb, hr, hl, hBl⟩ := hI
    have f0 := (blk_facts hb).1 0
    have f1 := (blk_facts hb).2 0
    have hbx' : VBox Z B x := hbx
    obtain ⟨d0, d1, d2, d3, d4, d5⟩ := hbx'.at_
    have hBs := hbx'.lt
    have hws := (Array.getElem?_eq_some_iff.1 hb).1
    obtain ⟨A0, c0, e0, hV0, hA0⟩ := hr.reads
    have HR := Lib.hid hr
    have HBL := Lib.hid hBl
    have HBX := Lib.hid hb
    clear hV0 hA0 hr hBl hb hbx hbx'
    subst e0
    have k1 := Lib.hid ((Below.refl Z.heap.size Z).alloc (Nat.le_refl _) (.cells #[.int .i64 x.tag, .string (bs x.text), .int .u64 x.bits, .string (bs x.cls), .string (bs x.name), .string (bs x.desc)] 36))
    unfold vv
    gi_wp2_with (first | (gi_at_builtin; refine wpListIn_appV rfl _ _ rfl w.heap.size (.slice A0 pre.length c0) pre rfl (HR.out.grow k1.out) _ [x] rfl (src_val (heap_alloc_new _ _) 1) (by simp; omega) (by simp; omega) ?_; intro v7 x7 hr7 hp7; (obtain ⟨A7, c7, e7, hV7, hA7⟩ := hr7.reads; subst e7; clear hV7 hA7); (have hb7 := (hp7.1.block w.heap.size (Nat.lt_of_lt_of_le hws k1.out.size) (own_ne (HR.out.grow k1.out) ((k1.out.block _ hws).trans HBX.out) (by decide))).trans ((k1.out.block _ hws).trans HBX.out)); (have f7 := (blk_facts hb7).1 0); (have g7 := (blk_facts hb7).2 0); (have HR7 := Lib.hid hr7); (have HP7 := Lib.hid hp7); (have HB7 := Lib.hid hb7); clear hr7 hp7 hb7) | (rw [Oper.semAt_eq _ _ _ (fun c h => by cases h)]; go_simp; try go_bits))
    have hlen : (pre ++ [x]).length = pre.length + 1 := by simp
    rw [hlen] at HR7 HP7
    have hg8 := grownBy_setAtK x7 w.heap.size 0 HB7.out (.slice A7 (pre.length + 1) c7)
    have hsz := HBL.out.size
    refine ⟨((others_of (World.grownBy_alloc Z _ none) (fun k e => by cases e)).trans (others_of HP7.out.1 (HR.out.grow k1.out).cells)).trans (others_of hg8 (fun k e o ho => by
      cases e
      rw [HB7.out] at ho
      cases ho
      rfl)), .slice A7 (pre.length + 1) c7, ?_, HR7.out.kept hg8 (fun k hk e => own_ne HR7.out HB7.out (by decide) (e.trans hk.symm)), by rw [hlen]; omega, ?_⟩
    · rw [setCell_eq_setRow x7 w.heap.size 0 _ _ _ _ HB7.out]
      exact setRow_heap x7 _ _ _ _ _ HB7.out
    · exact (((HBL.out.trans (k1.out.mono hsz)).trans (HP7.out.below (Nat.le_trans hsz k1.out.size) (fun k hk => HR.out.base_le hk)))).grown hg8 (Nat.le_trans hsz (Nat.le_trans k1.out.size HP7.out.1.size)) (fun j hj => by cases hj; exact Nat.le_refl _)
  · intro D xs X hD hS hI hdf
    obtain ⟨u, hb, hr, hl, hBl⟩ := hI
    have f0 := (blk_facts hb).1 0
    have f1 := (blk_facts hb).2 0
    have HR := Lib.hid hr
    have HBL := Lib.hid hBl
    obtain ⟨A0, c0, e0, hV0, hA0⟩ := hr.reads
    subst e0
    clear hV0 hA0 hr hBl hb
    gi_wp2
    have hD2 : w.heap.size < D := by simp at hD; omega
    have hgD := grownBy_putObj' X D (.deferred none)
    refine ⟨by simp, .inl ⟨_, _, rfl, run_takeDeferred hdf, ?_⟩⟩
    refine ⟨_, results_tmp rfl _ _ _, .slice A0 xs.length c0, xs, rfl, hS, HR.out.kept hgD (fun k hk e => ?_), hl, HBL.out.grown hgD HBL.out.size (fun k e => by cases e; omega)⟩
    cases e
    have := HR.out.cells _ hk _ hdf
    cases this
set_option maxRecDepth 100000 in
theorem collect_any (g : Nat) (lb : Array Value) (eg : ∀ args w, (callFunc g args).run Tryz.prog w = .ok (.enter g args) w) (S : List Pv → Prop) (N : Nat) (hN : N ≤ 1000000) (w : World) (hseq : SeqGives Fence.wide 2 Tryz.prog g lb vv S N w) :
    Calls Tryz.prog 44 #[.func (.func g) #[] lb] w fun e w' => ∃ (v : Value) (ss : List Pv), e = .returned v ∧ S ss ∧ VRow w' w.heap.size v ss ∧ ss.length ≤ N ∧ Below w.heap.size w w' := by
  have HA := Lib.hid (appendSeq_any g lb eg S N hN w hseq)
  clear hseq eg
  go_enter Tryz.func44, Tryz.ntmps44
  go_wp2_with fail
  refine HA.out.mono ?_
  rintro e w1 ⟨v, ss, rfl, hS, hr, hsl, hb⟩
  have H1 := Lib.hid hS
  have H2 := Lib.hid hr
  have H3 := Lib.hid hb
  clear hS hr hb
  go_wp2
  go_ret
  exact ⟨_, ss, rfl, H1.out, H2.out, hsl, H3.out⟩
end Go.Proofs.YtkdamaomhppkgaaGreat

/- The walk of layer 19: the pool of values, by the program. -/
namespace Go.Proofs.YtkdamaomhppkgaaGreat
open Go.RowKit Go.Maps

theorem clAll_len (l : List Pv) : (clAll l).length = wts l := by
  unfold clAll wts
  rw [List.length_flatMap]
  rfl
theorem ord_len (low all : List Pv) : (Pv.ord low all).length ≤ 8 * low.length + 7 * all.length := by
  unfold Pv.ord Pv.rest
  have h1 := putO_fold_len low []
  have h2 := putO_fold_len ((clAll (low ++ all)).filter fun x => decide (x ∉ low)) []
  have h3 := List.length_filter_le (fun x => decide (x ∉ low)) (clAll (low ++ all))
  have h4 := wts_le (low ++ all)
  rw [clAll_len] at h3
  rw [List.length_append] at h4 ⊢
  unfold sd
  simp only [List.length_nil] at h1 h2
  omega
theorem rest_of {low all ss : List Pv} {S : Pv → Bool} (hf : ∀ v ∈ low ++ all, v.fits) (hS : ∀ x, S x = true ↔ x ∈ clAll (low ++ all)) (h : AllOf (fun x => decide (x ∉ low) && S x) ss) : sd Pv.lt ss = Pv.rest low all := by
  refine rises_uniq Pv.lin (sd_rises Pv.lin _) (sd_rises Pv.lin _) fun x => ?_
  show x ∈ sd Pv.lt ss ↔ x ∈ Pv.rest low all
  rw [sd_mem Pv.lin, Pv.rest_mem, ← hS]
  constructor
  · intro hx
    have := (h.2.2 x (h.2.1 x hx)).1 hx
    simp only [Bool.and_eq_true, decide_eq_true_eq] at this
    exact ⟨this.2, this.1⟩
  · rintro ⟨h1, h2⟩
    refine (h.2.2 x (Pv.fits_cl hf ((hS x).1 h1)).k).2 ?_
    simp [h1, h2]
theorem VRow.nilcap {w : World} {base n c : Nat} {xs : List Pv} (h : VRow w base (.slice none n c) xs) : c = 0 := by
  rcases h.2 with ⟨h, _⟩ | ⟨g, cap, cur, h, _⟩
  · cases h; rfl
  · cases h
theorem del_step {low : List Pv} {j : Nat} {v : Pv} (h : low[j]? = some v) (S : Pv → Bool) : (fun x => !decide (x = v) && (decide (x ∉ low.take j) && S x)) = fun x => decide (x ∉ low.take (j + 1)) && S x := by
  funext x
  have hm : x ∈ low.take (j + 1) ↔ x ∈ low.take j ∨ x = v := by
    obtain ⟨h1, rfl⟩ := List.getElem?_eq_some_iff.1 h
    rw [List.take_succ_eq_append_getElem h1, List.mem_append, List.mem_singleton]
  rw [Bool.eq_iff_iff]
  simp only [Bool.and_eq_true, Bool.not_eq_true', decide_eq_false_iff_not, decide_eq_true_eq, hm]
  constructor
  · rintro ⟨a, b, c⟩
    exact ⟨fun h => h.elim b a, c⟩
  · rintro ⟨a, c⟩
    exact ⟨fun e => a (.inr e), fun e => a (.inl e), c⟩
theorem VSet.keptMaps {w w' : World} {b n m : Nat} {S : Pv → Bool} (h : VSet w b n S) (k : MapsKept m w w') (hne : b ≠ m) : VSet w' b n S := by
  obtain ⟨D, ⟨es, clock, hb, r⟩, h2⟩ := h
  exact ⟨D, ⟨es, clock, k b es clock hne hb, r⟩, h2⟩
/-- What the call comes to. -/
def NewOk (low all : List Pv) (w : World) (e : Ending) (w' : World) : Prop :=
  (Pv.errOf (low ++ all) ≠ 0 ∧ e = .returned (.tuple #[.pointer none, .int .i64 (Pv.errOf (low ++ all))]) ∨
   Pv.errOf (low ++ all) = 0 ∧ ∃ b u m n, e = .returned (.tuple #[.pointer (some ⟨b, 0, none⟩), .int .i64 0]) ∧ PoolS w' w.heap.size b u m n (Pv.ord low all)) ∧ Below w.heap.size w w'
set_option maxHeartbeats 8000000 in
set_option maxRecDepth 100000 in
theorem new_any (A B : Option Addr) (c d : Nat) (low all : List Pv) (w : World) (hx : Vals w A c low) (hy : Vals w B d all) (hA : A = none → c = 0) (hn : low.length ≤ 1000) (hm : all.length ≤ 1000) (hf : ∀ v ∈ low ++ all, v.fits) :
    Calls Tryz.prog 20 #[.slice A low.length c, .slice B all.length d] w (NewOk low all w) := by
  have HX := Lib.hid hx
  have HY := Lib.hid hy
  have HFT := Lib.hid hf
  have HAN := Lib.hid hA
  clear hx hy hf hA
  have k0 := Lib.hid ((Below.refl w.heap.size w).alloc (Nat.le_refl _) (.cells #[.slice A low.length c, .slice B all.length d] 22))
  have hcc := concat_any w.heap.size A c low B d all (w.alloc (.cells #[.slice A low.length c, .slice B all.length d] 22)) (heap_alloc_new _ _) (HX.out.grow k0.out) (HY.out.grow k0.out) (by omega) (by omega)
  have HCC := Lib.hid hcc
  clear hcc
  go_enter Tryz.func20, Tryz.ntmps20
  go_wp2_with fail
  refine HCC.out.mono ?_
  rintro e w2 ⟨v2, rfl, hr2, hb2⟩
  have HB2 := Lib.hid (k0.out.trans (hb2.mono k0.out.size))
  obtain ⟨A2, c2, rfl, hV2, hA2⟩ := hr2.reads
  have HAN2 := Lib.hid (show A2 = none → c2 = 0 by
    rintro rfl
    exact hr2.nilcap)
  have HV2 := Lib.hid hV2
  have HL := Lib.hid (show (low ++ all).length = low.length + all.length from List.length_append)
  rw [HL.out]
  clear hb2 hr2 hV2 hA2 HCC k0
  go_wp2_with fail
  go_loopw [20] (fun t wr => ∃ i : Nat, i ≤ low.length + all.length ∧ t = .int .i64 i ∧ Pv.errOf ((low ++ all).drop i) = Pv.errOf (low ++ all) ∧ Below w2.heap.size w2 wr) (fun t _ => low.length + all.length - (intOf t).toNat)
  case atStart => exact ⟨0, Nat.zero_le _, rfl, rfl, Below.refl _ _⟩
  case round =>
    obtain ⟨i, hil, rfl, herr, hB⟩ := hrel
    have HB := Lib.hid hB
    have HE := Lib.hid herr
    have HW := Lib.hid (HB2.out.trans (hB.mono HB2.out.size))
    clear hB herr
    by_cases hi : i < low.length + all.length
    · obtain ⟨g, o, v, rfl, hg, hv, c0, c1, c2', c3, c4, c5⟩ := (HV2.out.grow HB.out).at_ (i := i) (by rw [HL.out]; exact hi)
      have p1 : decide ((i : Int) < (low.length : Int) + (all.length : Int)) = true := decide_eq_true (by omega)
      have p2 : decide (i < low.length + all.length) = true := decide_eq_true hi
      have he := Pv.errOf_drop hv
      have k1 := Lib.hid ((Below.refl wr.heap.size wr).alloc (Nat.le_refl _) (.cells #[.int .i64 v.tag, .string (bs v.text), .int .u64 v.bits, .string (bs v.cls), .string (bs v.name), .string (bs v.desc)] 36))
      have HR := Lib.hid (fun w => check_any v w)
      unfold vv at HR
      obtain ⟨ck, hck⟩ : ∃ ck, ck = v.chk 0 9 5 := ⟨_, rfl⟩
      rw [← hck] at HR he
      clear hck hv
      by_cases h0 : ck = 0
      · subst h0
        rw [if_pos rfl] at he
        have HE1 := Lib.hid (he.symm.trans HE.out)
        clear he HAN2
        go_wp2_with fail
        generalize wr.alloc (.cells #[.int .i64 v.tag, .string (bs v.text), .int .u64 v.bits, .string (bs v.cls), .string (bs v.name), .string (bs v.desc)] 36) = W at k1 ⊢
        refine (HR.out _).mono ?_
        rintro e w' ⟨rfl, hb⟩
        have HB1 := Lib.hid (HB.out.trans ((k1.out.trans (hb.mono k1.out.size)).mono HB.out.size))
        clear hb
        go_wp2
        go_roundw
        case rel => exact ⟨i + 1, by omega, by go_num, HE1.out, HB1.out⟩
        case measure => simp [intOf]; omega
      · have p3 : (ck != 0) = true := by simpa using h0
        rw [if_neg h0] at he
        have HE1 := Lib.hid (HE.out.symm.trans he)
        have H0 := Lib.hid h0
        clear he h0 HAN2
        go_wp2_with fail
        generalize wr.alloc (.cells #[.int .i64 v.tag, .string (bs v.text), .int .u64 v.bits, .string (bs v.cls), .string (bs v.name), .string (bs v.desc)] 36) = W at k1 ⊢
        refine (HR.out _).mono ?_
        rintro e w' ⟨rfl, hb⟩
        have HB1 := Lib.hid (HW.out.trans ((k1.out.trans (hb.mono k1.out.size)).mono HW.out.size))
        clear hb
        go_wp2
        go_ret2
        exact ⟨.inl ⟨by rw [HE1.out]; exact H0.out, by rw [HE1.out]; rfl⟩, HB1.out⟩
    · have p1 : decide ((i : Int) < (low.length : Int) + (all.length : Int)) = false := decide_eq_false (by omega)
      have HE0 := Lib.hid (show Pv.errOf (low ++ all) = 0 by
        have e : i = (low ++ all).length := by rw [HL.out]; omega
        rw [← HE.out, e, List.drop_length]; rfl)
      have hcl := closure_any A2 c2 (low ++ all) wr (HV2.out.grow HB.out) (by rw [HL.out]; omega) HAN2.out HFT.out
      rw [HL.out] at hcl
      have HCL := Lib.hid hcl
      clear HE hcl
      go_wp2_with fail
      refine HCL.out.mono ?_
      rintro e w3 ⟨S, n3, rfl, hV3, hS3, hn3, hB3⟩
      have HS3 := Lib.hid hS3
      have HB3 := Lib.hid (HW.out.trans (hB3.mono HW.out.size))
      have hbM : w.heap.size ≤ wr.heap.size := HW.out.size
      have hn3' : n3 ≤ 14000 := by rw [HL.out] at hn3; omega
      have HST := Lib.hid (show ∃ i : Nat, i ≤ low.length ∧ (Value.int .i64 0) = .int .i64 i ∧ VSet w3 wr.heap.size n3 (fun x => decide (x ∉ low.take i) && S x) ∧ Below w.heap.size w w3 from
        ⟨0, Nat.zero_le _, rfl, by simpa using hV3, HB3.out⟩)
      clear hV3 hS3 hn3 hB3 HCL HB3
      obtain ⟨M, hM⟩ : ∃ M, M = wr.heap.size := ⟨_, rfl⟩
      rw [← hM] at HST hbM ⊢
      have HM := Lib.hid hM
      clear hM
      go_wp2_with fail
      obtain ⟨wq, rfl⟩ : ∃ wq, wq = wr := ⟨_, rfl⟩
      go_loopw [34] (fun t wx => ∃ i : Nat, i ≤ low.length ∧ t = .int .i64 i ∧ VSet wx M n3 (fun x => decide (x ∉ low.take i) && S x) ∧ Below w.heap.size w wx) (fun t _ => low.length - (intOf t).toNat)
      case atStart => exact HST.out
      case round =>
        clear HST
        obtain ⟨j, hjl, rfl, hV, hB⟩ := hrel
        have MV := Lib.hid hV
        have MB := Lib.hid hB
        clear hV hB
        by_cases hj : j < low.length
        · obtain ⟨g, o, v, rfl, hg, hv, c0, c1, c2', c3, c4, c5⟩ := (HX.out.grow MB.out).at_ hj
          have p1' : decide ((j : Int) < (low.length : Int)) = true := decide_eq_true (by omega)
          have p2' : decide (j < low.length) = true := decide_eq_true hj
          have k1 := Lib.hid ((Below.refl wr.heap.size wr).alloc (Nat.le_refl _) (.cells #[.int .i64 v.tag, .string (bs v.text), .int .u64 v.bits, .string (bs v.cls), .string (bs v.name), .string (bs v.desc)] 36))
          have HFV := Lib.hid (HFT.out v (by simp [List.mem_of_getElem? hv])).k
          have hset := Lib.hid (del_step hv S)
          have hwb : w.heap.size ≤ wr.heap.size := MB.out.size
          clear hv
          go_wp2_with (at_delete; refine wpList_setDel rfl _ _ rfl M n3 _ v rfl (MV.out.grow k1.out) HFV.out rfl ?_; intro w5 hV5 hg5)
          rw [hset.out] at hV5
          have NV := Lib.hid hV5
          have NB := Lib.hid ((MB.out.trans (k1.out.mono hwb)).grown hg5 (Nat.le_trans hwb k1.out.size) (fun k e => by cases e; exact hbM))
          clear hV5 hg5
          go_roundw
          case rel => exact ⟨j + 1, by omega, by go_num, NV.out, NB.out⟩
          case measure => simp [intOf]; omega
        · obtain rfl : j = low.length := by omega
          have p1' : decide ((low.length : Int) < (low.length : Int)) = false := decide_eq_false (by omega)
          have p2' : decide (low.length < low.length) = false := decide_eq_false (by omega)
          rw [List.take_length] at MV
          have MVL := MV.out.lt
          have hmm := @run_makeMap Tryz.prog
          go_wp2_with fail
          have hwb : w.heap.size ≤ wr.heap.size := MB.out.size
          have kA := (Below.refl wr.heap.size wr).alloc (Nat.le_refl _) (.map #[] 0)
          have kB := Lib.hid (kA.alloc kA.size (.cells #[.slice none 0 0, .map (some wr.heap.size), .int .i64 1] 90))
          have HPS := Lib.hid (show PoolS ((wr.alloc (.map #[] 0)).alloc (.cells #[.slice none 0 0, .map (some wr.heap.size), .int .i64 1] 90)) w.heap.size (wr.heap.size + 1) (.slice none 0 0) wr.heap.size 0 [] from
            ⟨heap_alloc2_new wr _ _, VRow.nil _ _, (VNum.made wr).grow ((Below.refl _ _).alloc (Nat.le_refl _) _), by omega, hwb, Nat.zero_le _⟩)
          have HV9 := Lib.hid (MV.out.grow kB.out)
          have HB9 := Lib.hid (MB.out.trans (kB.out.mono hwb))
          have HC9 := Lib.hid (clone_any A c low ((wr.alloc (.map #[] 0)).alloc (.cells #[.slice none 0 0, .map (some wr.heap.size), .int .i64 1] 90)) (HX.out.grow HB9.out) (by omega) HAN.out)
          obtain ⟨pb, hpb⟩ : ∃ pb, pb = wr.heap.size + 1 := ⟨_, rfl⟩
          rw [← hpb] at HPS ⊢
          generalize (wr.alloc (.map #[] 0)).alloc (.cells #[.slice none 0 0, .map (some wr.heap.size), .int .i64 1] 90) = W9 at *
          clear hmm kA kB MV hpb
          refine HC9.out.mono ?_
          rintro e w10 ⟨u1, rfl, hr10, hb10⟩
          have hs9 := HB9.out.size
          have HN10 := Lib.hid (number_any w w.heap.size pb wr.heap.size 0 (.slice none 0 0) u1 [] low w10 (HPS.out.grow hb10) (hr10.lower hs9) (fun k hk u hu e => by
            rw [List.mem_singleton] at hu
            subst hu
            cases e) (fun k hk => by cases hk) (by omega) (by simp) (by simp) (fun x hx => (HFT.out x (by simp [hx])).k))
          have HV10 := Lib.hid (HV9.out.grow hb10)
          have HB10 := Lib.hid (HB9.out.trans (hb10.mono hs9))
          clear hr10 hb10 HC9
          have hMne : M ≠ wr.heap.size := fun e => by
            have := MVL
            omega
          have HMNE := Lib.hid hMne
          clear hMne
          go_wp2_with fail
          refine HN10.out.mono ?_
          rintro e w11 ⟨u, n, rfl, hp11, hb11, hk11, hu11⟩
          have HV11 := Lib.hid (HV10.out.keptMaps hk11 HMNE.out)
          have HP11 := Lib.hid (show PoolS w11 w.heap.size pb u wr.heap.size n (sd Pv.lt low) from hp11)
          have HB11 := Lib.hid (HB10.out.trans hb11)
          have HU11 := Lib.hid hu11
          have hpl11 := hp11.lt
          clear hp11 hb11 hk11 hu11 HN10 HV10
          go_wp2_with fail
          refine (keys_any M w11).mono ?_
          rintro e w12 ⟨rfl, hw12⟩
          have kC : Below w11.heap.size w11 w12 := hw12 ▸ (Below.refl w11.heap.size w11).alloc (Nat.le_refl _) _
          have hcell : w12.cell? ⟨w11.heap.size, 0, none⟩ = some (.map (some M)) := hw12 ▸ (blk_facts (heap_alloc_new w11 (.cells #[.map (some M)] 53))).1 0
          have hlt12 : w11.heap.size < w12.heap.size := by rw [← hw12]; simp
          have hV12 := HV11.out.grow kC
          obtain ⟨D0, hown, hSI⟩ := hV12
          have hsz := hown.size_le
          have HCO := Lib.hid (collect_any 47 #[.pointer (some ⟨w11.heap.size, 0, none⟩)] (enters_of Tryz.func47 (by kernel_rfl) rfl) _ (Maps.size D0) (by omega) w12 (keys_gives w11.heap.size M n3 D0 _ hSI w12 hlt12 hcell hown))
          have HP12 := Lib.hid (HP11.out.grow kC)
          have HK12 := Lib.hid kC
          have HB12 := Lib.hid (HB11.out.trans (kC.mono HB11.out.size))
          clear kC hcell hown hSI hw12
          go_wp2_with fail
          refine HCO.out.mono ?_
          rintro e w13 ⟨u2, ss, rfl, hAll, hr13, hsl, hb13⟩
          have HALL := Lib.hid hAll
          have hs12 := HB12.out.size
          have HN13 := Lib.hid (number_any w w.heap.size pb wr.heap.size n u u2 (sd Pv.lt low) ss w13 (HP12.out.grow hb13) (hr13.lower hs12) (fun k hk t ht e => by
            rw [List.mem_singleton] at ht
            subst ht
            have h1 := hr13.base_le hk
            have h2 := HU11.out k e
            omega) (fun k hk t ht e => by
            rw [List.mem_singleton] at ht
            subst ht
            have h1 := hr13.base_le e
            have h2 := HU11.out k hk
            omega) (by omega) (by have := putO_fold_len low []; unfold sd; simp only [List.length_nil] at this; omega) (fun x hx hin => by
            have h1 := (hAll.2.2 x (hAll.2.1 x hx)).1 hx
            simp only [Bool.and_eq_true, decide_eq_true_eq] at h1
            exact h1.1 ((sd_mem Pv.lin _ _).1 hin)) hAll.2.1)
          have HB13 := Lib.hid (HB12.out.trans (hb13.mono hs12))
          clear hAll hr13 hb13 HCO
          go_wp2_with fail
          refine HN13.out.mono ?_
          rintro e w14 ⟨u', n', rfl, hp14, hb14, hk14, hu14⟩
          rw [rest_of HFT.out HS3.out HALL.out] at hp14
          have HP14 := Lib.hid (show PoolS w14 w.heap.size pb u' wr.heap.size n' (Pv.ord low all) from hp14)
          have HB14 := Lib.hid (HB13.out.trans hb14)
          have m2 := (blk_facts hp14.box).1 2
          have hpl14 := hp14.lt
          have hol := ord_len low all
          have hrl := room_le (Pv.ord low all)
          have hm2 : w14.cell? ⟨pb, 2, none⟩ = some (.int .i64 ((1 + ((Pv.ord low all).map Pv.room).sum : Nat) : Int)) := m2
          clear hp14 hb14 hk14 hu14 HN13 m2
          generalize ((Pv.ord low all).map Pv.room).sum = rs at hm2 hrl
          have p9 : decide ((65535 : Int) < ((1 + rs : Nat) : Int)) = false := decide_eq_false (by omega)
          go_wp2
          go_ret2
          exact ⟨.inr ⟨HE0.out, _, _, _, _, rfl, HP14.out⟩, HB14.out⟩
end Go.Proofs.YtkdamaomhppkgaaGreat

/- The walk of the library: the keys of a set of values, in order. -/
namespace Go.Proofs.YtkdamaomhppkgaaGreat
open Go.RowKit Go.Maps

theorem rises_of {l : List Pv} (hn : l.Nodup) (h : l.Pairwise fun a b => ¬ Pv.lt b a) : l.Pairwise Pv.lt := by
  have h2 := (List.pairwise_and_iff.2 ⟨hn, h⟩)
  exact h2.imp fun ⟨h1, h2⟩ => by
    rcases Pv.lin.tri _ _ with h3 | h3 | h3
    · exact h3
    · exact absurd h3 h1
    · exact absurd h3 h2
theorem sorted_is {l ss : List Pv} {S : Pv → Bool} (hf : ∀ v ∈ l, v.fits) (hS : ∀ x, S x = true ↔ x ∈ clAll l) (hr : ss.Pairwise Pv.lt) (hk : ∀ x ∈ ss, x.fitsK) (hm : ∀ x : Pv, x.fitsK → (x ∈ ss ↔ S x = true)) : ss = Pv.ord [] l := by
  rw [ord_nil]
  refine rises_uniq Pv.lin hr (sd_rises Pv.lin _) fun x => ?_
  rw [sd_mem Pv.lin, ← hS]
  constructor
  · intro h; exact (hm x (hk x h)).1 h
  · intro h; exact (hm x (Pv.fits_cl hf ((hS x).1 h)).k).2 h
set_option maxRecDepth 100000 in
theorem sorted_any (Bm b nn : Nat) (D0 : DataW Unit) (S : Pv → Bool) (hSI : SetIs D0 S) (w : World) (hlt : Bm < w.heap.size) (hcell : w.cell? ⟨Bm, 0, none⟩ = some (.map (some b))) (hown : w.ownsMap Tryz.prog 36 RB b nn D0) (hsz : Maps.size D0 ≤ 1000000) :
    Calls Tryz.prog 24 #[.func (.func 47) #[] #[.pointer (some ⟨Bm, 0, none⟩)], .func (.func 26) #[] #[]] w fun e w' => ∃ u l', e = .returned u ∧ VRow w' w.heap.size u l' ∧ l'.Pairwise Pv.lt ∧ (∀ x ∈ l', x.fitsK) ∧ (∀ x : Pv, x.fitsK → (x ∈ l' ↔ S x = true)) ∧ l'.length ≤ Maps.size D0 ∧ Below w.heap.size w w' := by
  have HCO := Lib.hid (collect_any 47 #[.pointer (some ⟨Bm, 0, none⟩)] (enters_of Tryz.func47 (by kernel_rfl) rfl) _ (Maps.size D0) hsz w (keys_gives Bm b nn D0 _ hSI w hlt hcell hown))
  clear hlt hcell hown hSI
  go_enter Tryz.func24, Tryz.ntmps24
  go_wp2_with fail
  refine HCO.out.mono ?_
  rintro e w1 ⟨v, ss, rfl, hS, hr, hlen, hb⟩
  have HR := Lib.hid hr
  have HS := Lib.hid hS
  have HB := Lib.hid hb
  clear hr hS hb HCO
  go_wp2_with fail
  refine (sort_any w.heap.size v ss w1 HR.out (by omega)).mono ?_
  rintro e w2 ⟨l', rfl, hr2, hperm, hpw, hg⟩
  have N := Lib.hid hr2
  have NB := Lib.hid (HB.out.grown hg HB.out.size (fun k hk => HR.out.base_le hk))
  have P := Lib.hid hperm
  have PW := Lib.hid hpw
  clear hr2 hperm hpw hg
  go_wp2
  go_ret
  exact ⟨_, l', rfl, N.out, rises_of (P.out.symm.nodup HS.out.1) PW.out, fun x hx => HS.out.2.1 x (P.out.mem_iff.1 hx), fun x hx => P.out.mem_iff.trans (HS.out.2.2 x hx), by rw [P.out.length_eq]; exact hlen, NB.out⟩
end Go.Proofs.YtkdamaomhppkgaaGreat

/- The walk of layer 28: the table of values. -/
namespace Go.Proofs.YtkdamaomhppkgaaGreat
open Go.RowKit Go.Maps

/-- What the call comes to. -/
def OfOk (l : List Pv) (w : World) (e : Ending) (w' : World) : Prop :=
  (Pv.errOf l ≠ 0 ∧ e = .returned (.tuple #[.pointer none, .int .i64 (Pv.errOf l)]) ∨
   Pv.errOf l = 0 ∧ ∃ b m n us, e = .returned (.tuple #[.pointer (some ⟨b, 0, none⟩), .int .i64 0]) ∧ TabOf w' w.heap.size b m n us (Pv.ord [] l)) ∧ Below w.heap.size w w'
set_option maxHeartbeats 8000000 in
set_option maxRecDepth 100000 in
theorem of_any (B : Option Addr) (d : Nat) (l : List Pv) (w : World) (hy : Vals w B d l) (hm : l.length ≤ 100000) (hA : B = none → d = 0) (hf : ∀ v ∈ l, v.fits) :
    Calls Tryz.prog 8 #[.slice B l.length d] w (OfOk l w) := by
  have HY := Lib.hid hy
  have HFIT := Lib.hid hf
  have HFT := Lib.hid (fun x hx => Pv.fits_cl hf (x := x) hx)
  have HAN := Lib.hid hA
  have HND := Lib.hid (fun v w => needs_any v w)
  unfold vv at HND
  have k0 := Lib.hid ((Below.refl w.heap.size w).alloc (Nat.le_refl _) (.map #[] 0))
  have HV0 := Lib.hid (VSet.made w)
  have hmm := @run_makeMap Tryz.prog
  clear hy hf hA
  unfold OfOk
  go_enter Tryz.func8, Tryz.ntmps8
  go_wp2_with fail
  clear hmm
  generalize w.alloc (.map #[] 0) = W at k0 HV0 ⊢
  go_loopw [17] (fun t wr => ∃ i : Nat, i ≤ l.length ∧ t = .int .i64 i ∧ Pv.errOf (l.drop i) = Pv.errOf l ∧ Below W.heap.size W wr) (fun t _ => l.length - (intOf t).toNat)
  case atStart => exact ⟨0, Nat.zero_le _, rfl, rfl, Below.refl _ _⟩
  case round =>
    obtain ⟨i, hil, rfl, her, hB⟩ := hrel
    have MB := Lib.hid hB
    have ME := Lib.hid her
    clear hB her
    by_cases hi : i < l.length
    · obtain ⟨g, o, v, rfl, hg, hv, c0, c1, c2, c3, c4, c5⟩ := (HY.out.grow (k0.out.trans (MB.out.mono k0.out.size))).at_ hi
      have p1 : decide ((i : Int) < (l.length : Int)) = true := decide_eq_true (by omega)
      have p2 : decide (i < l.length) = true := decide_eq_true hi
      have HED := Lib.hid (Pv.errOf_drop hv)
      have HVF := Lib.hid (HFIT.out v (List.mem_of_getElem? hv))
      clear hv
      have kA := (Below.refl wr.heap.size wr).alloc (Nat.le_refl _) (.cells #[.int .i64 v.tag, .string (bs v.text), .int .u64 v.bits, .string (bs v.cls), .string (bs v.name), .string (bs v.desc)] 36)
      have kB := Lib.hid (kA.alloc kA.size (.cells #[.int .i64 v.tag, .string (bs v.text), .int .u64 v.bits, .string (bs v.cls), .string (bs v.name), .string (bs v.desc)] 36))
      have HNW := Lib.hid (new_any (some ⟨wr.heap.size + 1, 0, none⟩) none 1 0 [v] [] _ (vals_one (heap_alloc2_new wr (.cells #[.int .i64 v.tag, .string (bs v.text), .int .u64 v.bits, .string (bs v.cls), .string (bs v.name), .string (bs v.desc)] 36) (.cells #[.int .i64 v.tag, .string (bs v.text), .int .u64 v.bits, .string (bs v.cls), .string (bs v.name), .string (bs v.desc)] 36))) (Vals.nil _ _ _) (fun h => by cases h) (by simp) (by simp) (fun x hx => by simp at hx; exact hx ▸ HVF.out))
      clear kA
      go_wp2_with fail
      refine HNW.out.mono ?_
      rintro e x4 ⟨hnew, hb4⟩
      have B4 := Lib.hid (MB.out.trans ((kB.out.trans (hb4.mono kB.out.size)).mono MB.out.size))
      have hev : Pv.errOf ([v] ++ []) = if v.chk 0 9 5 = 0 then 0 else v.chk 0 9 5 := rfl
      rw [hev] at hnew
      clear hb4 HNW kB c0 c1 c2 c3 c4 c5 hev
      by_cases hc : v.chk 0 9 5 = 0
      · rw [if_pos hc] at hnew
        have HEN := Lib.hid (show Pv.errOf (l.drop (i + 1)) = Pv.errOf l by
          have h := HED.out
          rw [if_pos hc] at h
          rw [← h]
          exact ME.out)
        rcases hnew with ⟨h, _⟩ | ⟨_, b, u, m, n, rfl, _⟩
        · exact absurd rfl h
        clear hc
        go_wp2_with fail
        go_roundw
        case rel => exact ⟨i + 1, by omega, by go_num, HEN.out, B4.out⟩
        case measure => simp [intOf]; omega
      · rw [if_neg hc] at hnew
        have HEN := Lib.hid (show Pv.errOf l = v.chk 0 9 5 by
          have h := HED.out
          rw [if_neg hc] at h
          rw [← h]
          exact ME.out.symm)
        rcases hnew with ⟨h, rfl⟩ | ⟨h, _⟩
        · have HC := Lib.hid hc
          have he : (v.chk 0 9 5 != 0) = true := by simpa using hc
          clear hc h
          go_wp2_with fail
          go_ret2
          exact ⟨.inl ⟨by rw [HEN.out]; exact HC.out, by rw [HEN.out]; rfl⟩, k0.out.trans (B4.out.mono k0.out.size)⟩
        · exact absurd h hc
    · obtain rfl : i = l.length := by omega
      have p1 : decide ((l.length : Int) < (l.length : Int)) = false := decide_eq_false (by omega)
      have p2 : decide (l.length < l.length) = false := decide_eq_false (by omega)
      have HE0 := Lib.hid (show Pv.errOf l = 0 by rw [← ME.out, List.drop_length]; rfl)
      have B1 := Lib.hid (k0.out.trans (MB.out.mono k0.out.size))
      have V1 := Lib.hid (HV0.out.grow MB.out)
      have HC := Lib.hid (clone_any B d l wr (HY.out.grow B1.out) (by omega) HAN.out)
      clear ME MB HV0 k0
      go_wp2_with fail
      refine HC.out.mono ?_
      rintro e w1 ⟨u, rfl, hr, hb⟩
      have HST := Lib.hid (show CloSt l w (7 * l.length) u (7 * l.length) w1 from
        ⟨_, l, 0, wts_le l, by have := wts_le l; omega, Clo.begin, V1.out.grow hb, (VOff.of hr).lower B1.out.size, B1.out.trans (hb.mono B1.out.size)⟩)
      clear hr hb HC V1 B1
      go_wp2_with fail
      clear wr
      go_loopg [9] (7 * l.length) (fun g t wx => CloSt l w (7 * l.length) t g wx)
      case atStart => exact HST.out
      case round =>
        clear HST
        obtain ⟨S, T, n, hg, hN, hC, hV, hT, hB⟩ := hrel
        have HC := Lib.hid hC
        have HV := Lib.hid hV
        have HT := Lib.hid hT
        have HB := Lib.hid hB
        clear hC hV hT hB
        rcases List.eq_nil_or_concat T with rfl | ⟨T', v, rfl⟩
        · obtain ⟨A4, c4, rfl, hV4⟩ := HT.out.reads
          have HF := Lib.hid (fun x => HC.out.fin x)
          clear hV4 HT HC
          have MV := Lib.hid HV.out
          have MB := Lib.hid HB.out
          have hn7 : n ≤ 7 * l.length := by omega
          clear HV HB
          go_wp2_with fail
          refine (start_new wr).mono ?_
          rintro e w4 ⟨us, hus, rfl, hT4, hb4⟩
          have HUS := Lib.hid hus
          clear hus
          have V4 := Lib.hid (MV.out.grow hb4)
          have B4 := Lib.hid (MB.out.trans (hb4.mono MB.out.size))
          have T4 := Lib.hid hT4
          have hwr := MB.out.size
          have hw4 := hb4.size
          clear hT4 hb4 MV MB
          go_wp2_with fail
          refine (keys_any w.heap.size w4).mono ?_
          rintro e w5 ⟨rfl, hw5⟩
          have kC : Below w4.heap.size w4 w5 := hw5 ▸ (Below.refl w4.heap.size w4).alloc (Nat.le_refl _) _
          have hcell : w5.cell? ⟨w4.heap.size, 0, none⟩ = some (.map (some w.heap.size)) := hw5 ▸ (blk_facts (heap_alloc_new w4 (.cells #[.map (some w.heap.size)] 53))).1 0
          have hlt5 : w4.heap.size < w5.heap.size := by rw [← hw5]; simp
          have hV5 := V4.out.grow kC
          obtain ⟨D0, hown, hSI⟩ := hV5
          have hsz := hown.size_le
          have htb : wr.heap.size + 1 < w5.heap.size := Nat.lt_trans T4.out.box.lt hlt5
          have htm : wr.heap.size < w5.heap.size := by omega
          have HSO := Lib.hid (sorted_any w4.heap.size w.heap.size n D0 S hSI w5 hlt5 hcell hown (by omega))
          have T5 := Lib.hid (T4.out.grow kC)
          have B5 := Lib.hid (B4.out.trans (kC.mono B4.out.size))
          clear kC hcell hown hSI hw5 V4 T4 B4
          go_wp2_with fail
          refine HSO.out.mono ?_
          rintro e w6 ⟨u, O, rfl, hr6, hpw, hk6, hm6, hl6, hb6⟩
          have hO := sorted_is HFIT.out HF.out hpw hk6 hm6
          have T6 := Lib.hid (T5.out.grow hb6)
          have B6 := Lib.hid (B5.out.trans (hb6.mono B5.out.size))
          obtain ⟨A6, c6, rfl, hV6, hA6⟩ := hr6.reads
          have V6 := Lib.hid hV6
          have HOO := Lib.hid hO
          have HON := Lib.hid (show O.Nodup from rises_nodup Pv.lin hpw)
          have HOF := Lib.hid (show ∀ v ∈ O, v.fits ∧ v.chk 0 9 5 = 0 from fun v hv => by
            have h := (HF.out v).1 ((hm6 v (hk6 v hv)).1 hv)
            exact ⟨Pv.fits_cl HFIT.out h, Pv.chk_cl (Pv.errOf_zero HE0.out) h⟩)
          have hol : O.length ≤ 700000 := by omega
          have HG := Lib.hid (show ∀ g o, A6 = some ⟨g, o, none⟩ → 0 < O.length → w5.heap.size ≤ g ∧ g < w6.heap.size from fun g o e hp => by
            obtain ⟨g', o', e', hg', _⟩ := hV6.2 hp
            rw [e] at e'
            cases e'
            exact ⟨(hA6 g o e).1, hg'⟩)
          have hs6 := hb6.size
          clear hr6 hpw hk6 hm6 hb6 hO hV6 hA6 HSO T5 B5 HF hl6
          have TS := Lib.hid (show TabS w6 wr.heap.size (wr.heap.size + 1) wr.heap.size 0 us (fun t => Pv.row (O.take 0) t) (Pv.nums O 0) (fun v => decide (v ∈ O.take 0)) from T6.out.same (fun t => rfl) (fun v => by rw [nums_zero]) (fun v => by simp))
          have T0 := Lib.hid (TS.out.lower hwr)
          clear TS T6
          go_wp2_with fail
          generalize wr.heap.size + 1 = tb at *
          generalize wr.heap.size = tm at *
          clear wr
          go_loopw [62] (fun t wr => ∃ (i : Nat) (us : Nat → Value) (n : Nat), i ≤ O.length ∧ t = .int .i64 i ∧ TabS wr w.heap.size tb tm n us (fun t => Pv.row (O.take i) t) (Pv.nums O i) (fun v => decide (v ∈ O.take i)) ∧ n ≤ i ∧ (∀ s k, (us s).ownBlock = some k → w6.heap.size ≤ k) ∧ Vals wr A6 c6 O ∧ w6.heap.size ≤ wr.heap.size ∧ Below w.heap.size w wr) (fun t _ => O.length - (intOf t).toNat)
          case atStart => exact ⟨0, us, 0, Nat.zero_le _, rfl, T0.out, Nat.le_refl _, (fun s k hk => by rw [HUS.out] at hk; cases hk), V6.out, Nat.le_refl _, B6.out⟩
          case round =>
            obtain ⟨i, us2, n2, hil, rfl, hT, hn2, hus2, hVl, hsz2, hB⟩ := hrel
            have MT := Lib.hid hT
            have MU := Lib.hid hus2
            have MV := Lib.hid hVl
            have MB := Lib.hid hB
            clear hT hus2 hVl hB
            by_cases hi : i < O.length
            · obtain ⟨g, o, v, rfl, hg, hv, c0, c1, c2, c3, c4, c5⟩ := MV.out.at_ hi
              have p1 : decide ((i : Int) < (O.length : Int)) = true := decide_eq_true (by omega)
              have p2 : decide (i < O.length) = true := decide_eq_true hi
              obtain ⟨hvf, hvc⟩ := HOF.out v (List.mem_of_getElem? hv)
              have htg := chk_tag hvc
              obtain ⟨t, ht⟩ : ∃ t : Nat, v.tag = (t : Int) := ⟨v.tag.toNat, by omega⟩
              have k1 := Lib.hid ((Below.refl wr.heap.size wr).alloc (Nat.le_refl _) (.cells #[.int .i64 v.tag, .string (bs v.text), .int .u64 v.bits, .string (bs v.cls), .string (bs v.name), .string (bs v.desc)] 36))
              have hrl := row_len (O.take i) (t : Int)
              rw [List.length_take] at hrl
              have HADD := Lib.hid (add_any w.heap.size tb tm n2 t us2 (fun t => Pv.row (O.take i) t) (Pv.nums O i) (fun v => decide (v ∈ O.take i)) v _ (MT.out.grow k1.out) hvf ht (by omega) (by omega) (by omega))
              unfold vv at HADD
              have HTN := Lib.hid (fun (x : World) (us : Nat → Value) h => TabS.next (x := x) (base := w.heap.size) (b := tb) (m := tm) (n := n2 + 1) (us := us) hv HON.out ht h)
              have HGG := Lib.hid (HG.out g o rfl (by omega))
              clear hvf hvc htg ht hrl hv
              go_wp2_with fail
              refine HADD.out.mono ?_
              rintro e x5 ⟨rfl, ⟨us3, hT3, hu3⟩, hfr, hb5⟩
              have k1s := k1.out.size
              have hgw := HGG.out
              have N5 := Lib.hid (HTN.out x5 us3 hT3)
              have NB := Lib.hid (show Below w.heap.size w x5 from (MB.out.trans (k1.out.mono MB.out.size)).trans hb5)
              have NS : wr.heap.size ≤ x5.heap.size := by
                have h1 : x5.heap.size ≥ (wr.alloc (.cells #[.int .i64 v.tag, .string (bs v.text), .int .u64 v.bits, .string (bs v.cls), .string (bs v.name), .string (bs v.desc)] 36)).heap.size := hb5.size
                omega
              have NU := Lib.hid (show ∀ s k, (us3 s).ownBlock = some k → w6.heap.size ≤ k from fun s k hk => by
                rcases hu3 s k hk with h | h
                · exact MU.out s k h
                · omega)
              have NV := Lib.hid (MV.out.block NS (fun g' o' e => by
                cases e
                exact (hfr g (by omega) (by omega) (by omega) (fun e => by have := MU.out t g e; omega)).trans (k1.out.block g hg)))
              clear hT3 hu3 hfr hb5 c0 c1 c2 c3 c4 c5 HADD HTN MT MU MV MB k1
              go_wp2_with fail
              go_roundw
              case rel => exact ⟨i + 1, us3, n2 + 1, by omega, by go_num, N5.out, by omega, NU.out, NV.out, by omega, NB.out⟩
              case measure => simp [intOf]; omega
            · obtain rfl : i = O.length := by omega
              have p1 : decide ((O.length : Int) < (O.length : Int)) = false := decide_eq_false (by omega)
              have p2 : decide (O.length < O.length) = false := decide_eq_false (by omega)
              have hT := MT.out
              rw [List.take_length] at hT
              have NT := Lib.hid (show TabOf wr w.heap.size tb tm n2 us2 (Pv.ord [] l) from by rw [← HOO.out]; exact hT)
              clear hT MT MU MV
              go_wp2_with fail
              go_ret2
              exact ⟨.inr ⟨HE0.out, tb, tm, n2, us2, rfl, NT.out⟩, MB.out⟩
        · rw [List.concat_eq_append] at HT HC hg hN
          obtain ⟨g, o, c', rfl, hbg, hgl, hc', ⟨c0, c1, c2, c3, c4, c5⟩, hnx⟩ := HT.out.pop
          have HN := Lib.hid hnx
          have HFV := Lib.hid (HFT.out v (HC.out.soundT v (by simp)))
          have k1 := Lib.hid ((Below.refl wr.heap.size wr).alloc (Nat.le_refl _) (.cells #[.int .i64 v.tag, .string (bs v.text), .int .u64 v.bits, .string (bs v.cls), .string (bs v.name), .string (bs v.desc)] 36))
          have q1 := Lib.hid (vbox_new wr v)
          rw [wts_append, show wts [v] = v.wt + 0 from wts_cons v []] at hg hN
          have hwv := wt_pos v
          have hTb : T'.length ≤ 1000000 := by have := wts_len T'; omega
          have hlk := (HV.out.grow k1.out).look HFV.out.k
          unfold vv at hlk
          have p1 : decide ((0 : Int) < (T'.length : Int) + 1) = true := decide_eq_true (by omega)
          clear hnx HT
          by_cases hS : S v = true
          · rw [hS] at hlk
            have HC2 := Lib.hid (HC.out.old hS)
            clear hS
            go_wp2_with fail
            go_roundg (gk - 1)
            case measure => omega
            case rel => exact ⟨S, T', n, by omega, by omega, HC2.out, HV.out.grow k1.out, HN.out.grow k1.out, HB.out.trans (k1.out.mono HB.out.size)⟩
          · rw [Bool.eq_false_iff.2 hS] at hlk
            have HC2 := Lib.hid (HC.out.add)
            have hwn := wts_needs v
            have hnl := v.needs_len
            clear hS
            have HVK := Lib.hid (HV.out.grow k1.out)
            have hnm : n < maxLen := by unfold maxLen; omega
            have hvv : Value.agg #[.int .i64 v.tag, .string (bs v.text), .int .u64 v.bits, .string (bs v.cls), .string (bs v.name), .string (bs v.desc)] = vv v := rfl
            have HVV := Lib.hid hvv
            have HNM := Lib.hid hnm
            clear hvv hnm
            have hml := HV.out.lt
            have HNV := Lib.hid (HN.out.grow k1.out)
            have HNE := Lib.hid (show some w.heap.size ≠ (Value.slice (some ⟨g, o, none⟩) T'.length c').ownBlock by
              obtain ⟨D, ⟨es, clock, hb, _⟩, _⟩ := HVK.out
              exact OffRow.ne_obj HNV.out hb (fun cur e => by cases e))
            go_wp2_with (at_mapUpdate; refine wpList_setPut rfl _ _ _ rfl w.heap.size n S v rfl HVK.out HNM.out HFV.out.k rfl rfl ?_; intro w5 hV5 hg5; have q5 : VBox w5 wr.heap.size v := (hg5.block _ (by simp) (fun e => by have := Option.some.inj e; omega)).trans q1.out; obtain ⟨d0, d1, d2, d3, d4, d5⟩ := q5.at_; have hqs := q5.lt; have HV5 := Lib.hid hV5; have HG5 := Lib.hid hg5; clear hV5 hg5 q5)
            have hkN : VOff w5 w.heap.size (.slice (some ⟨g, o, none⟩) T'.length c') T' := OffRow.kept HNV.out HG5.out (.inr HNE.out)
            have HKN := Lib.hid hkN
            have KB := Lib.hid ((HB.out.trans (k1.out.mono HB.out.size)).grown HG5.out (Nat.le_trans HB.out.size k1.out.size) (fun j hj => by cases hj; exact Nat.le_refl _))
            refine (HND.out v w5).mono ?_
            rintro e w6 ⟨u31, rfl, hr6, hb6⟩
            obtain ⟨A6, c6, rfl, hV6, hA6⟩ := hr6.reads
            have HV6 := Lib.hid hV6
            have HR6 := Lib.hid hb6
            clear hr6 hV6 hA6 hb6 d0 d1 d2 d3 d4 d5 hqs hkN hlk c0 c1 c2 c3 c4 c5
            go_wp2_with (at_builtin; refine wpList_appO rfl _ _ rfl w.heap.size (.slice (some ⟨g, o, none⟩) T'.length c') T' rfl (HKN.out.grow HR6.out) _ v.needs rfl (HV6.out.src (Below.refl _ _)) (by omega) (Nat.le_trans KB.out.size HR6.out.size) ?_; intro v7 w7 hr7 hp7)
            have S7 := Lib.hid hr7
            have V7 := Lib.hid ((HV5.out.grow HR6.out).kept hp7.1 HNE.out)
            have B7 := Lib.hid ((KB.out.trans (HR6.out.mono KB.out.size)).trans (hp7.below (Nat.le_trans KB.out.size HR6.out.size) (fun k hk => (HKN.out.base_le hk).1)))
            clear hr7 hp7
            go_roundg (gk - 1)
            case measure => omega
            case rel => exact ⟨_, T' ++ v.needs, n + 1, by rw [wts_append]; omega, by rw [wts_append]; omega, HC2.out, V7.out, S7.out, B7.out⟩
end Go.Proofs.YtkdamaomhppkgaaGreat
