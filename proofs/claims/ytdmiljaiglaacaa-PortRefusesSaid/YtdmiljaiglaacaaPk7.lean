/- Joined texts: Closure, Number, TabA. -/
import Derived.Test.YtdmiljaiglaacaaPk6
import Derived.Test.YtdmiljaiglaacaaPk3
import Derived.Test.YtdmiljaiglaacaaPk5
import Derived.Carry
import Derived.Deep.CutRange
import Derived.Deep.RegionLaw
/- The walk of layer 19: all that values need, by the program. -/
namespace Go.Proofs.Ytdmiljaiglaacaa
open Go.RowKit Go.Maps

theorem Pv.fits_needs {v x : Pv} (h : v.fits) (hx : x ∈ v.needs) : x.fits := by
  obtain ⟨h0, h1, h2, h3, h4, h5⟩ := h
  have i1 : I64 1 := by unfold I64; omega
  have i7 : I64 7 := by unfold I64; omega
  have i12 : I64 12 := by unfold I64; omega
  have t : ∀ s : List UInt8, s.length ≤ 140737488355328 → (Pv.ofText s).fits := fun s hs => ⟨i1, by simp [Pv.ofText], hs, by simp [Pv.ofText], by simp [Pv.ofText], by simp [Pv.ofText]⟩
  unfold Pv.needs at hx
  split at hx
  · simp only [List.mem_singleton] at hx
    subst hx
    exact t _ h2
  · split at hx
    · simp only [List.mem_cons, List.not_mem_nil, or_false] at hx
      rcases hx with rfl | rfl
      · exact t _ h4
      · exact t _ h5
    · split at hx
      · simp only [List.mem_cons, List.not_mem_nil, or_false] at hx
        rcases hx with rfl | rfl
        · exact ⟨i7, by simp [Pv.ofCls], h3, by simp [Pv.ofCls], by simp [Pv.ofCls], by simp [Pv.ofCls]⟩
        · exact ⟨i12, by simp [Pv.ofPair], by simp [Pv.ofPair], by simp [Pv.ofPair], h4, h5⟩
      · simp at hx
theorem Pv.fits_cl {l : List Pv} (h : ∀ v ∈ l, v.fits) {x : Pv} (hx : x ∈ clAll l) : x.fits := clAll_least (S := Pv.fits) h (fun _ hx _ hy => Pv.fits_needs hx hy) hx
/-- What is found, and what is to be done. -/
structure Clo (l : List Pv) (S : Pv → Bool) (T : List Pv) : Prop where
  sound : ∀ x, S x = true → x ∈ clAll l
  soundT : ∀ x ∈ T, x ∈ clAll l
  start : ∀ x ∈ l, S x = true ∨ x ∈ T
  need : ∀ x, S x = true → ∀ y ∈ x.needs, S y = true ∨ y ∈ T
section
variable {l T : List Pv} {S : Pv → Bool} {v : Pv}
theorem Clo.begin : Clo l (fun _ => false) l := ⟨by simp, fun x hx => clAll_has hx, fun x hx => .inr hx, by simp⟩
theorem Clo.old (h : Clo l S (T ++ [v])) (h1 : S v = true) : Clo l S T := by
  have step : ∀ x, S x = true ∨ x ∈ T ++ [v] → S x = true ∨ x ∈ T := fun x h3 => by
    rcases h3 with h3 | h3
    · exact .inl h3
    · rcases List.mem_append.1 h3 with h3 | h3
      · exact .inr h3
      · rw [List.mem_singleton] at h3
        subst h3
        exact .inl h1
  exact ⟨h.sound, fun x hx => h.soundT x (by simp [hx]), fun x hx => step x (h.start x hx), fun x hx y hy => step y (h.need x hx y hy)⟩
theorem Clo.add (h : Clo l S (T ++ [v])) : Clo l (fun x => decide (x = v) || S x) (T ++ v.needs) := by
  have hv : v ∈ clAll l := h.soundT v (by simp)
  have step : ∀ x, S x = true ∨ x ∈ T ++ [v] → (decide (x = v) || S x) = true ∨ x ∈ T ++ v.needs := fun x h3 => by
    rcases h3 with h3 | h3
    · exact .inl (by simp [h3])
    · rcases List.mem_append.1 h3 with h3 | h3
      · exact .inr (by simp [h3])
      · rw [List.mem_singleton] at h3
        subst h3
        exact .inl (by simp)
  refine ⟨fun x hx => ?_, fun x hx => ?_, fun x hx => step x (h.start x hx), fun x hx y hy => ?_⟩
  · simp only [Bool.or_eq_true, decide_eq_true_eq] at hx
    rcases hx with rfl | hx
    · exact hv
    · exact h.sound x hx
  · rcases List.mem_append.1 hx with hx | hx
    · exact h.soundT x (by simp [hx])
    · exact clAll_closed hv hx
  · simp only [Bool.or_eq_true, decide_eq_true_eq] at hx
    rcases hx with rfl | hx
    · exact .inr (by simp [hy])
    · exact step y (h.need x hx y hy)
theorem Clo.fin (h : Clo l S []) (x : Pv) : S x = true ↔ x ∈ clAll l := by
  refine ⟨h.sound x, fun hx => clAll_least (S := fun x => S x = true) (fun y hy => ?_) (fun y hy z hz => ?_) hx⟩
  · rcases h.start y hy with h3 | h3
    · exact h3
    · simp at h3
  · rcases h.need y hy z hz with h3 | h3
    · exact h3
    · simp at h3
end
/-- Between two rounds. -/
def CloSt (l : List Pv) (w : World) (N : Nat) (t : Value) (g : Nat) (x : World) : Prop :=
  ∃ S T n, wts T ≤ g ∧ n + wts T ≤ N ∧ Clo l S T ∧ VSet x w.heap.size n S ∧ VOff x w.heap.size t T ∧ Below w.heap.size w x
/-- What the call comes to. -/
def CloOk (l : List Pv) (w : World) (e : Ending) (w' : World) : Prop :=
  ∃ S n, e = .returned (.map (some w.heap.size)) ∧ VSet w' w.heap.size n S ∧ (∀ x, S x = true ↔ x ∈ clAll l) ∧ n ≤ 7 * l.length ∧ Below w.heap.size w w'
set_option maxHeartbeats 8000000 in
set_option maxRecDepth 100000 in
theorem closure_any (A : Option Addr) (c : Nat) (l : List Pv) (w : World) (hx : Vals w A c l) (hn : l.length ≤ 100000) (hA : A = none → c = 0) (hf : ∀ v ∈ l, v.fits) :
    Calls Try.prog 42 #[.slice A l.length c] w (CloOk l w) := by
  have k0 := Lib.hid ((Below.refl w.heap.size w).alloc (Nat.le_refl _) (.map #[] 0))
  have HV := Lib.hid (VSet.made w)
  have HC := Lib.hid (clone_any A c l (w.alloc (.map #[] 0)) (hx.grow k0.out) (by omega) hA)
  have HFT := Lib.hid (fun x hx => Pv.fits_cl hf (x := x) hx)
  have HND := Lib.hid (fun v w => needs_any v w)
  unfold vv at HND
  have hmm := @run_makeMap Try.prog
  clear hx hf hA
  go_enter Try.func42, Try.ntmps42
  go_wp2_with fail
  clear hmm
  generalize w.alloc (.map #[] 0) = W at k0 HV HC ⊢
  refine HC.out.mono ?_
  rintro e w1 ⟨u, rfl, hr, hb⟩
  have HST := Lib.hid (show CloSt l w (7 * l.length) u (7 * l.length) w1 from
    ⟨_, l, 0, wts_le l, by have := wts_le l; omega, Clo.begin, HV.out.grow hb, (VOff.of hr).lower k0.out.size, k0.out.trans (hb.mono k0.out.size)⟩)
  clear hr hb HC HV k0
  go_wp2_with fail
  go_loopg [4] (7 * l.length) (fun g t wx => CloSt l w (7 * l.length) t g wx)
  case atStart => exact HST.out
  case round =>
    clear HST
    obtain ⟨S, T, n, hg, hN, hC, hV, hT, hB⟩ := hrel
    have HC := Lib.hid hC
    have HV := Lib.hid hV
    have HT := Lib.hid hT
    have HB := Lib.hid hB
    clear hC hV hT hB
    rcases List.eq_nil_or_concat T with rfl | ⟨T', v, rfl⟩
    · obtain ⟨A4, c4, rfl, hV4⟩ := HT.out.reads
      have HF := Lib.hid (fun x => HC.out.fin x)
      clear hV4 HT HC
      go_wp2
      go_ret
      exact ⟨S, n, rfl, HV.out, HF.out, by omega, HB.out⟩
    · rw [List.concat_eq_append] at HT HC hg hN
      obtain ⟨g, o, c', rfl, hbg, hgl, hc', ⟨c0, c1, c2, c3, c4, c5⟩, hnx⟩ := HT.out.pop
      have HN := Lib.hid hnx
      have HFV := Lib.hid (HFT.out v (HC.out.soundT v (by simp)))
      have k1 := Lib.hid ((Below.refl wr.heap.size wr).alloc (Nat.le_refl _) (.cells #[.int .i64 v.tag, .string (bs v.text), .int .u64 v.bits, .string (bs v.cls), .string (bs v.name), .string (bs v.desc)] 28))
      have q1 := Lib.hid (vbox_new wr v)
      rw [wts_append, show wts [v] = v.wt + 0 from wts_cons v []] at hg hN
      have hwv := wt_pos v
      have hTb : T'.length ≤ 1000000 := by have := wts_len T'; omega
      have hlk := (HV.out.grow k1.out).look HFV.out.k
      unfold vv at hlk
      have p1 : decide ((0 : Int) < (T'.length : Int) + 1) = true := decide_eq_true (by omega)
      clear hnx HT
      by_cases hS : S v = true
      · rw [hS] at hlk
        have HC2 := Lib.hid (HC.out.old hS)
        clear hS
        go_wp2_with fail
        go_roundg (gk - 1)
        case measure => omega
        case rel => exact ⟨S, T', n, by omega, by omega, HC2.out, HV.out.grow k1.out, HN.out.grow k1.out, HB.out.trans (k1.out.mono HB.out.size)⟩
      · rw [Bool.eq_false_iff.2 hS] at hlk
        have HC2 := Lib.hid (HC.out.add)
        have hwn := wts_needs v
        have hnl := v.needs_len
        clear hS
        have HVK := Lib.hid (HV.out.grow k1.out)
        have hnm : n < maxLen := by unfold maxLen; omega
        have hvv : Value.agg #[.int .i64 v.tag, .string (bs v.text), .int .u64 v.bits, .string (bs v.cls), .string (bs v.name), .string (bs v.desc)] = vv v := rfl
        have HVV := Lib.hid hvv
        have HNM := Lib.hid hnm
        clear hvv hnm
        have hml := HV.out.lt
        have HNV := Lib.hid (HN.out.grow k1.out)
        have HNE := Lib.hid (show some w.heap.size ≠ (Value.slice (some ⟨g, o, none⟩) T'.length c').ownBlock by
          obtain ⟨D, ⟨es, clock, hb, _⟩, _⟩ := HVK.out
          exact OffRow.ne_obj HNV.out hb (fun cur e => by cases e))
        go_wp2_with (at_mapUpdate; refine wpList_setPut rfl _ _ _ rfl w.heap.size n S v rfl HVK.out HNM.out HFV.out.k rfl rfl ?_; intro w5 hV5 hg5; have q5 : VBox w5 wr.heap.size v := (hg5.block _ (by simp) (fun e => by have := Option.some.inj e; omega)).trans q1.out; obtain ⟨d0, d1, d2, d3, d4, d5⟩ := q5.at_; have hqs := q5.lt; have HV5 := Lib.hid hV5; have HG5 := Lib.hid hg5; clear hV5 hg5 q5)
        have hkN : VOff w5 w.heap.size (.slice (some ⟨g, o, none⟩) T'.length c') T' := OffRow.kept HNV.out HG5.out (.inr HNE.out)
        have HKN := Lib.hid hkN
        have KB := Lib.hid ((HB.out.trans (k1.out.mono HB.out.size)).grown HG5.out (Nat.le_trans HB.out.size k1.out.size) (fun j hj => by cases hj; exact Nat.le_refl _))
        refine (HND.out v w5).mono ?_
        rintro e w6 ⟨u31, rfl, hr6, hb6⟩
        obtain ⟨A6, c6, rfl, hV6, hA6⟩ := hr6.reads
        have HV6 := Lib.hid hV6
        have HR6 := Lib.hid hb6
        clear hr6 hV6 hA6 hb6 d0 d1 d2 d3 d4 d5 hqs hkN hlk c0 c1 c2 c3 c4 c5
        go_wp2_with (at_builtin; refine wpList_appO rfl _ _ rfl w.heap.size (.slice (some ⟨g, o, none⟩) T'.length c') T' rfl (HKN.out.grow HR6.out) _ v.needs rfl (HV6.out.src (Below.refl _ _)) (by omega) (Nat.le_trans KB.out.size HR6.out.size) ?_; intro v7 w7 hr7 hp7)
        have S7 := Lib.hid hr7
        have V7 := Lib.hid ((HV5.out.grow HR6.out).kept hp7.1 HNE.out)
        have B7 := Lib.hid ((KB.out.trans (HR6.out.mono KB.out.size)).trans (hp7.below (Nat.le_trans KB.out.size HR6.out.size) (fun k hk => (HKN.out.base_le hk).1)))
        clear hr7 hp7
        go_roundg (gk - 1)
        case measure => omega
        case rel => exact ⟨_, T' ++ v.needs, n + 1, by rw [wts_append]; omega, by rw [wts_append]; omega, HC2.out, V7.out, S7.out, B7.out⟩
end Go.Proofs.Ytdmiljaiglaacaa

/- The walk of layer 19: values are given numbers, by the program. -/
namespace Go.Proofs.Ytdmiljaiglaacaa
open Go.RowKit Go.Maps

/-- A pool that is being made. -/
structure PoolS (x : World) (base b : Nat) (u : Value) (m n : Nat) (O : List Pv) : Prop where
  box : x.heap[b]? = some (.cells #[u, .map (some m), .int .i64 ((1 + (O.map Pv.room).sum : Nat) : Int)] 83 (0, 0))
  row : VRow x base u O
  num : VNum x m n (fun v => ((Pv.num O v : Nat) : Int))
  hb : base ≤ b
  hm : base ≤ m
  hn : n ≤ O.length
section
variable {x y : World} {base b m n : Nat} {u : Value} {O : List Pv}
theorem PoolS.grow (h : PoolS x base b u m n O) (k : Below x.heap.size x y) : PoolS y base b u m n O :=
  ⟨(k.block b (Array.getElem?_eq_some_iff.1 h.box).1).trans h.box, h.row.grow k, h.num.grow k, h.hb, h.hm, h.hn⟩
theorem PoolS.lt (h : PoolS x base b u m n O) : b < x.heap.size := (Array.getElem?_eq_some_iff.1 h.box).1
/-- Another row turns. -/
theorem PoolS.kept (h : PoolS x base b u m n O) {t : Value} {T : List Pv} (ht : VRow x base t T) (hg : x.grownBy y t.ownBlock) (ha : ApartOf t [u]) : PoolS y base b u m n O := by
  refine ⟨(hg.block b h.lt ?_).trans h.box, h.row.kept hg (fun k hk e => ha k e u (by simp) hk), h.num.kept hg ?_, h.hb, h.hm, h.hn⟩
  · exact own_ne ht h.box (by decide)
  · intro e
    rcases ht.2 with ⟨rfl, _⟩ | ⟨g, cap, cur, rfl, _, h2, _⟩
    · cases e
    · obtain ⟨D, ⟨es, clock, hb, _⟩, _⟩ := h.num
      cases e
      rw [hb] at h2
      cases h2
theorem num_snoc {O : List Pv} {v : Pv} (hv : v ∉ O) (x : Pv) : ((Pv.num (O ++ [v]) x : Nat) : Int) = if x = v then ((1 + (O.map Pv.room).sum : Nat) : Int) else ((Pv.num O x : Nat) : Int) := by
  unfold Pv.num
  rw [Pv.numFrom_app]
  by_cases e : x = v
  · subst e
    rw [if_neg hv, if_pos rfl]
    simp [Pv.numFrom]
  · rw [if_neg e]
    by_cases h : x ∈ O
    · rw [if_pos h]
    · rw [if_neg h, Pv.numFrom_none h]
      simp [Pv.numFrom, Ne.symm e]
theorem room_snoc (O : List Pv) (v : Pv) : ((O ++ [v]).map Pv.room).sum = (O.map Pv.room).sum + v.room := by simp
theorem room_le (O : List Pv) : (O.map Pv.room).sum ≤ 2 * O.length := by
  induction O with
  | nil => simp
  | cons x l ih =>
    have hx : x.room ≤ 2 := by unfold Pv.room; split <;> omega
    simp only [List.map_cons, List.sum_cons, List.length_cons]; omega
end
/-- All maps but m are as they were. -/
def MapsKept (m : Nat) (w w' : World) : Prop := ∀ (k : Nat) (es : Array MapEntry) (ck : Nat), k ≠ m → w.heap[k]? = some (.map es ck) → w'.heap[k]? = some (.map es ck)
theorem MapsKept.trans {m : Nat} {x y z : World} (h : MapsKept m x y) (k : MapsKept m y z) : MapsKept m x z := fun i es ck hi he => k i es ck hi (h i es ck hi he)
theorem MapsKept.of_below {m : Nat} {x y : World} (h : Below x.heap.size x y) : MapsKept m x y := fun k es ck _ he => (h.block k (Array.getElem?_eq_some_iff.1 he).1).trans he
theorem MapsKept.of_grown {m : Nat} {x y : World} {row : Option Nat} (h : x.grownBy y row) (hr : ∀ k, row = some k → k = m ∨ ∃ cs t fr, x.heap[k]? = some (.cells cs t fr)) : MapsKept m x y := fun k es ck hk he =>
  (h.block k (Array.getElem?_eq_some_iff.1 he).1 (fun e => by
    rcases hr k e.symm with h1 | ⟨cs, t, fr, h1⟩
    · exact hk h1
    · rw [h1] at he; cases he)).trans he
theorem VRow.isRow {w : World} {base : Nat} {u : Value} {xs : List Pv} (h : VRow w base u xs) (m : Nat) : ∀ k, u.ownBlock = some k → k = m ∨ ∃ cs t fr, w.heap[k]? = some (.cells cs t fr) := by
  intro k hk
  rcases h.2 with ⟨rfl, _⟩ | ⟨g', cap, cur, rfl, _, h3, _⟩
  · cases hk
  · cases hk
    exact .inr ⟨_, _, _, h3⟩
theorem isBox {w : World} {b m : Nat} {cs : Array Value} {t : TypeId} {fr : Nat × Nat} (h : w.heap[b]? = some (.cells cs t fr)) : ∀ k, some b = some k → k = m ∨ ∃ cs t fr, w.heap[k]? = some (.cells cs t fr) := by
  intro k hk
  cases hk
  exact .inr ⟨_, _, _, h⟩
/-- Between the order's append and the number's store. -/
def Mid (w : World) (base b m n bx : Nat) (nx : Int) (f : Pv → Int) (O' : List Pv) (u9 : Value) (D : List Pv) (v : Pv) (x : World) : Prop :=
  ∃ u', x.heap[b]? = some (.cells #[u', .map (some m), .int .i64 nx] 83 (0, 0)) ∧ VRow x base u' O' ∧ VNum x m n f ∧ VRow x base u9 D ∧ ApartOf u' [u9] ∧ VBox x bx v ∧ Below base w x ∧ MapsKept m w x
theorem grownBy_setBox (w : World) (b o : Nat) {cur : Array Value} {t : TypeId} {fr : Nat × Nat} (h : w.heap[b]? = some (.cells cur t fr)) (v : Value) : w.grownBy (w.setCell ⟨b, o, none⟩ v) (some b) := by
  rw [setCell_eq_setRow w b o cur t fr v h]
  exact ⟨rfl, rfl, rfl, by simp, fun k _ hne => setRow_other w b k _ (fun hh => hne (by rw [hh]))⟩
theorem box_set {w : World} {b o : Nat} {cur cur' : Array Value} {t : TypeId} (h : w.heap[b]? = some (.cells cur t (0, 0))) (u : Value) (he : cur.setIfInBounds o u = cur') : (w.setCell ⟨b, o, none⟩ u).heap[b]? = some (.cells cur' t (0, 0)) := by
  rw [setCell_eq_setRow w b o _ _ _ u h, ← he]
  exact setRow_heap w b _ _ _ _ h
/-- An append onto a row: another block is as it was. -/
theorem app_kept {w0 W x : World} {base b : Nat} {u : Value} {o' : Option Nat} {P : List Pv} {cs : Array Value} {t : TypeId} (hp : Hop W x u.ownBlock o') (k : Below w0.heap.size w0 W) (hu : VRow w0 base u P) (hb : w0.heap[b]? = some (.cells cs t (0, 0))) (ht : t ≠ 28) :
    x.heap[b]? = some (.cells cs t (0, 0)) := by
  have hlt := (Array.getElem?_eq_some_iff.1 hb).1
  exact (hp.1.block b (Nat.lt_of_lt_of_le hlt k.size) (own_ne (hu.grow k) ((k.block b hlt).trans hb) ht)).trans ((k.block b hlt).trans hb)
theorem app_grown {w0 W x : World} {o o' : Option Nat} (hp : Hop W x o o') (k : Below w0.heap.size w0 W) : Hop w0 x o o' := by
  refine ⟨grownBy_trans (grownBy_below k o) hp.1 (.inl rfl), ?_⟩
  rcases hp.2 with h | ⟨g, hg, h⟩
  · exact .inl h
  · exact .inr ⟨g, Nat.le_trans k.size hg, h⟩
theorem app_box {wr W x : World} {base : Nat} {u : Value} {o' : Option Nat} {P : List Pv} {v : Pv} (hp : Hop W x u.ownBlock o') (k : Below (wr.alloc (.cells #[.int .i64 v.tag, .string (bs v.text), .int .u64 v.bits, .string (bs v.cls), .string (bs v.name), .string (bs v.desc)] 28)).heap.size (wr.alloc (.cells #[.int .i64 v.tag, .string (bs v.text), .int .u64 v.bits, .string (bs v.cls), .string (bs v.name), .string (bs v.desc)] 28)) W) (hu : VRow wr base u P) : VBox x wr.heap.size v := by
  have h0 := vbox_new wr v
  refine (hp.1.block wr.heap.size (Nat.lt_of_lt_of_le h0.lt k.size) (fun e => Nat.lt_irrefl _ (hu.lt e.symm))).trans ((k.block _ h0.lt).trans h0)
theorem mid_mk {w wr x7 : World} {base b m n nx : Nat} {u u7 u9 : Value} {P D : List Pv} {v : Pv} (hp : PoolS wr base b u m n P) (h9 : VRow wr base u9 D) (hap : ApartOf u [u9]) (hB : Below base w wr) (hK : MapsKept m w wr) (hop : Hop wr x7 u.ownBlock u7.ownBlock)
    (hr7 : VRow x7 base u7 (P ++ [v])) (hb7 : x7.heap[b]? = some (.cells #[u, .map (some m), .int .i64 (nx : Int)] 83 (0, 0))) (hv : VBox x7 wr.heap.size v) :
    Mid w base b m n wr.heap.size nx (fun x => ((Pv.num P x : Nat) : Int)) (P ++ [v]) u9 D v (x7.setCell ⟨b, 0, none⟩ u7) := by
  have hg := grownBy_setBox x7 b 0 hb7 u7
  have hn7 : VNum x7 m n (fun x => ((Pv.num P x : Nat) : Int)) := hp.num.kept hop.1 (fun e => by
    rcases hp.row.2 with ⟨rfl, _⟩ | ⟨g, cap, cur, rfl, _, h2, _⟩
    · cases e
    · obtain ⟨D, ⟨es, clock, hb, _⟩, _⟩ := hp.num
      cases e
      rw [hb] at h2
      cases h2)
  have h97 : VRow x7 base u9 D := h9.hop hop hap (by simp)
  refine ⟨u7, box_set hb7 u7 rfl, hr7.kept hg (fun k hk e => ?_), hn7.kept hg (fun e => ?_), h97.kept hg (fun k hk e => ?_), hap.hop hop (fun t ht k e => ?_), (hg.block _ hv.lt (fun e => ?_)).trans hv, ?_, (hK.trans (.of_grown hop.1 (hp.row.isRow m))).trans (.of_grown hg (isBox hb7))⟩
  · exact own_ne hr7 hb7 (by decide) (e.trans hk.symm)
  · exact hn7.ne hb7 (Option.some.inj e)
  · exact own_ne h97 hb7 (by decide) (e.trans hk.symm)
  · rw [List.mem_singleton] at ht
    subst ht
    exact h9.lt e
  · have h1 := hp.lt
    have h2 := Option.some.inj e
    omega
  · have hbs : base ≤ wr.heap.size := Nat.le_trans hp.hb (Nat.le_of_lt hp.lt)
    exact (hB.trans (hop.below hbs (fun k hk => hp.row.base_le hk))).grown hg (Nat.le_trans hbs hop.1.size) (fun j hj => by cases hj; exact hp.hb)
theorem map_ne_row {x : World} {base m n : Nat} {e : TypeId} {k sz : Nat} {u : Value} {f : Pv → Int} {xs : List Value} (h : VNum x m n f) (hr : x.ownsRow base e sz u k xs) : u.ownBlock ≠ some m := by
  intro e1
  rcases hr.2 with ⟨rfl, _⟩ | ⟨g, cap, cur, rfl, _, h2, _⟩
  · cases e1
  · obtain ⟨D, ⟨es, clock, hb, _⟩, _⟩ := h
    cases e1
    rw [hb] at h2
    cases h2
theorem pool_step {w W2 w5 x6 : World} {base b m n nx : Nat} {u u9 : Value} {P D : List Pv} {v : Pv} (hr : VRow W2 base u (P ++ [v])) (h9 : VRow W2 base u9 D) (hn : VNum W2 m n (fun x => ((Pv.num P x : Nat) : Int))) (hB : Below base w W2) (hK : MapsKept m w W2) (hbb : base ≤ W2.heap.size) (hb : base ≤ b) (hm : base ≤ m) (hnn : n ≤ P.length)
    (hg5 : W2.grownBy w5 (some m)) (hn5 : VNum w5 m (n + 1) (fun x => if x = v then (nx : Int) else ((Pv.num P x : Nat) : Int))) (hnew : v ∉ P) (hnx : nx = 1 + (P.map Pv.room).sum)
    {cur5 : Array Value} (hb5 : w5.heap[b]? = some (.cells cur5 83 (0, 0)))
    (hg6 : w5.grownBy x6 (some b)) (hb6 : x6.heap[b]? = some (.cells #[u, .map (some m), .int .i64 ((nx + v.room : Nat) : Int)] 83 (0, 0))) :
    PoolS x6 base b u m (n + 1) (P ++ [v]) ∧ VRow x6 base u9 D ∧ Below base w x6 ∧ MapsKept m w x6 := by
  have hr5 : VRow w5 base u (P ++ [v]) := hr.kept hg5 (fun k hk e => map_ne_row hn hr (by rw [hk, ← e]))
  have h95 : VRow w5 base u9 D := h9.kept hg5 (fun k hk e => map_ne_row hn h9 (by rw [hk, ← e]))
  have hf : (fun x => if x = v then (nx : Int) else ((Pv.num P x : Nat) : Int)) = fun x => ((Pv.num (P ++ [v]) x : Nat) : Int) := by
    funext x
    rw [num_snoc hnew x, hnx]
  rw [hf] at hn5
  refine ⟨⟨?_, hr5.kept hg6 (fun k hk e => own_ne hr5 hb5 (by decide) (e.trans hk.symm)), hn5.kept hg6 (fun e => hn5.ne hb5 (Option.some.inj e)), hb, hm, by simp; omega⟩, h95.kept hg6 (fun k hk e => own_ne h95 hb5 (by decide) (e.trans hk.symm)), ?_, (hK.trans (.of_grown hg5 (fun k e => by cases e; exact .inl rfl))).trans (.of_grown hg6 (isBox hb5))⟩
  · rw [room_snoc, ← Nat.add_assoc, ← hnx]
    exact hb6
  · exact (hB.grown hg5 hbb (fun j hj => by cases hj; exact hm)).grown hg6 (Nat.le_trans hbb hg5.size) (fun j hj => by cases hj; exact hb)
/-- At a walk's operation: a value is given a number. -/
theorem wpList_numPut {w : World} {ops : Array Oper} {rest : List Oper} {o : Oper} {a : Act} {Q : Exit → Act → World → Prop} (hg : o.guard = none) (m x u : Operand) (hop : o.op = Op.mapUpdate 81 m x u) (b n : Nat) (f : Pv → Int) (v : Pv) (y : Int)
    (hm : a.eval m = .map (some b)) (hown : VNum w b n f) (hn : n < maxLen) (hv : v.fitsK) (hx : a.eval x = vv v) (hu : a.eval u = .int .i64 y) (hy : I64 y)
    (hK : ∀ w', VNum w' b (n + 1) (fun x => if x = v then y else f x) → w.grownBy w' (some b) → wpList Try.prog ops Q rest (a.put o.dst undef) w') : wpList Try.prog ops Q (o :: rest) a w := by
  obtain ⟨D, h1, h2⟩ := hown
  refine wpList_mapUpdate_own w hg m x u 81 hop 28 3 lawV Try.underlying81 RN b n D hm h1 hn (vv v) (.int .i64 y) (kv v) hx hu (keyV hv) (.lit (.int .i64 y)) [] (plainElem_int Try.underlying3 (wfI.2 hy)) fun w' r1 r2 => hK w' (VNum.put h1 h2 hv r1) r2
/-- What the call comes to. -/
def NumOk (base b m : Nat) (O l : List Pv) (w : World) (e : Ending) (w' : World) : Prop :=
  ∃ u n, e = .returned (.tuple #[]) ∧ PoolS w' base b u m n (O ++ sd Pv.lt l) ∧ Below base w w' ∧ MapsKept m w w' ∧ ∀ k, u.ownBlock = some k → k < w'.heap.size
set_option maxHeartbeats 8000000 in
set_option maxRecDepth 100000 in
theorem number_any (w0 : World) (base b m n : Nat) (u u1 : Value) (O l : List Pv) (w : World) (hp : PoolS w base b u m n O) (hl : VRow w base u1 l) (ha : ApartOf u1 [u]) (ha2 : ApartOf u [u1]) (hn : l.length ≤ 100000) (hO : O.length ≤ 100000)
    (hd : ∀ x ∈ l, x ∉ O) (hf : ∀ x ∈ l, x.fitsK) :
    Calls Try.prog 43 #[.pointer (some ⟨b, 0, none⟩), u1] w (NumOk base b m O l w) := by
  have HP := Lib.hid hp
  have HL := Lib.hid hl
  have HA := Lib.hid ha
  have HA2 := Lib.hid ha2
  have HD := Lib.hid hd
  have HF := Lib.hid hf
  have hbz := hp.lt
  have hbb : base ≤ w.heap.size := Nat.le_trans hp.hb (Nat.le_of_lt hp.lt)
  have HSO := Lib.hid (sort_any base u1 l w hl (by omega))
  clear hp hl ha ha2 hd hf
  go_enter Try.func43, Try.ntmps43
  go_wp2_with fail
  refine HSO.out.mono ?_
  rintro e w1 ⟨l', rfl, hr1, hpm, hpw, hg1⟩
  have HP1 := Lib.hid (HP.out.kept HL.out hg1 HA.out)
  have hB1 := Lib.hid ((Below.refl base w).grown hg1 hbb (fun k hk => HL.out.base_le hk))
  have hK1 := Lib.hid (MapsKept.of_grown hg1 (HL.out.isRow m))
  have HCM := Lib.hid (compact_any base u1 l' w1 hr1 (by rw [hpm.length_eq]; omega))
  have HSD := Lib.hid (compact_sd hpw hpm)
  have HL1 := Lib.hid hr1
  clear hr1 hpm hpw hg1 HSO
  go_wp2_with fail
  refine HCM.out.mono ?_
  rintro e w2 ⟨u9, rfl, hr2, hg2, ho2⟩
  rw [HSD.out] at hr2
  have HP2 := Lib.hid (HP1.out.kept HL1.out hg2 HA.out)
  have hB2 := Lib.hid (hB1.out.trans ((Below.refl base w1).grown hg2 (Nat.le_trans hbb hB1.out.size) (fun k hk => HL1.out.base_le hk)))
  have hK2 := Lib.hid (hK1.out.trans (.of_grown hg2 (HL1.out.isRow m)))
  obtain ⟨A9, c9, rfl, hV9, hA9⟩ := hr2.reads
  have H9 := Lib.hid hr2
  have HAP := Lib.hid (show ApartOf u [.slice A9 (sd Pv.lt l).length c9] from fun k hk v hv e => by
    rw [List.mem_singleton] at hv
    subst hv
    exact HA2.out k hk u1 (by simp) (ho2 ▸ e))
  have HDD := Lib.hid (show ∀ x ∈ sd Pv.lt l, x ∉ O ∧ x.fitsK from fun x hx => ⟨HD.out x ((sd_mem Pv.lin _ _).1 hx), HF.out x ((sd_mem Pv.lin _ _).1 hx)⟩)
  have HND := Lib.hid (rises_nodup Pv.lin (sd_rises Pv.lin l))
  have hsl := putO_fold_len l []
  rw [List.length_nil, Nat.zero_add, show l.foldl (putO Pv.lt) [] = sd Pv.lt l from rfl] at hsl
  have HQ := Lib.hid (show NumOk base b m O l w = fun e w' => ∃ u n, e = .returned (.tuple #[]) ∧ PoolS w' base b u m n (O ++ sd Pv.lt l) ∧ Below base w w' ∧ MapsKept m w w' ∧ ∀ k, u.ownBlock = some k → k < w'.heap.size from rfl)
  clear hr2 hg2 ho2 hV9 hA9 HP1 HL1 HCM HL HP HA HA2
  generalize hDg : sd Pv.lt l = D at *
  have HDG := Lib.hid hDg
  clear hDg
  go_wp2_with fail
  have HST := Lib.hid (show ∃ (i : Nat) (u : Value) (n : Nat), i ≤ D.length ∧ (Value.int .i64 0) = .int .i64 i ∧ PoolS w2 base b u m n (O ++ D.take i) ∧ VRow w2 base (.slice A9 D.length c9) D ∧ ApartOf u [.slice A9 D.length c9] ∧ Below base w w2 ∧ MapsKept m w w2 from
    ⟨0, u, n, Nat.zero_le _, rfl, by simpa using HP2.out, H9.out, HAP.out, hB2.out, hK2.out⟩)
  clear HP2 H9 HAP hB1 hB2
  go_loopw [11] (fun t wx => ∃ (i : Nat) (u : Value) (n : Nat), i ≤ D.length ∧ t = .int .i64 i ∧ PoolS wx base b u m n (O ++ D.take i) ∧ VRow wx base (.slice A9 D.length c9) D ∧ ApartOf u [.slice A9 D.length c9] ∧ Below base w wx ∧ MapsKept m w wx) (fun t _ => D.length - (intOf t).toNat)
  case atStart => exact HST.out
  case round =>
    clear HST
    obtain ⟨i, u, n, hi, rfl, hp, h9, hap, hB, hK⟩ := hrel
    have HK := Lib.hid hK
    clear hK
    have HP := Lib.hid hp
    have H9 := Lib.hid h9
    have HAP := Lib.hid hap
    have HB := Lib.hid hB
    have hon := hp.hn
    have hol : (O ++ D.take i).length ≤ 200000 := by rw [List.length_append, List.length_take]; omega
    clear hp h9 hap hB
    by_cases hlt : i < D.length
    · obtain ⟨g, o, v, e9, hg, hv, c0, c1, c2, c3, c4, c5⟩ := H9.out.vals.at_ hlt
      subst e9
      have p1 : decide ((i : Int) < (D.length : Int)) = true := decide_eq_true (by omega)
      have p2 : decide (i < D.length) = true := decide_eq_true hlt
      have hsn : O ++ D.take (i + 1) = (O ++ D.take i) ++ [v] := by
        obtain ⟨a1, rfl⟩ := List.getElem?_eq_some_iff.1 hv
        rw [List.take_succ_eq_append_getElem a1, List.append_assoc]
      have hnew : v ∉ O ++ D.take i := by
        intro hin
        rcases List.mem_append.1 hin with h | h
        · exact (HDD.out v (List.mem_of_getElem? hv)).1 h
        · obtain ⟨a1, a2⟩ := List.getElem?_eq_some_iff.1 hv
          obtain ⟨j, hj, e⟩ := List.mem_iff_getElem.1 h
          rw [List.length_take] at hj
          rw [List.getElem_take] at e
          have := (List.pairwise_iff_getElem.1 HND.out) j i (by omega) a1 (by omega)
          exact this (e.trans a2.symm)
      have HSN := Lib.hid hsn
      have HNW := Lib.hid hnew
      have HFK := Lib.hid (HDD.out v (List.mem_of_getElem? hv)).2
      clear hsn hnew hv
      generalize O ++ D.take i = P at *
      have hrm := room_le P
      obtain ⟨nx, hnx⟩ : ∃ nx, nx = 1 + (P.map Pv.room).sum := ⟨_, rfl⟩
      have hnb : nx ≤ 400001 := by omega
      have HNX := Lib.hid hnx
      have k1 := Lib.hid ((Below.refl wr.heap.size wr).alloc (Nat.le_refl _) (.cells #[.int .i64 v.tag, .string (bs v.text), .int .u64 v.bits, .string (bs v.cls), .string (bs v.name), .string (bs v.desc)] 28))
      have q1 := Lib.hid (vbox_new wr v)
      have hbx := HP.out.box
      rw [← hnx] at hbx
      have HBX := Lib.hid hbx
      have hbz2 := HP.out.lt
      have hbase := HP.out.hb
      have hbwr := HB.out.size
      clear hnx hbx hrm
      go_upto_region 4 with fail
      go_cut [11] from 11 to 51 (fun s11 wx => s11 = .int .i64 i ∧ Mid w base b m n wr.heap.size nx (fun x => ((Pv.num P x : Nat) : Int)) (P ++ [v]) (.slice (some ⟨g, o, none⟩) D.length c9) D v wx)
      case first =>
        have hb1 := (k1.out.block b hbz2).trans HBX.out
        have hb1' : wr.drew.heap.size = wr.heap.size := rfl
        have d0 := (blk_facts hb1).1 0
        have f0 := (blk_facts hb1).2 0
        have hq1 := q1.out.lt
        have hq := q1.out.at_
        obtain ⟨e0, e1, e2, e3, e4, e5⟩ := hq
        clear c0 c1 c2 c3 c4 c5 hb1
        go_region_law ((first
          | (refine step_appV rfl _ _ rfl base u P rfl (HP.out.row.grow (by (repeat (first | exact Below.refl _ _ | exact k1.out | refine Below.drew ?_ | refine Below.alloc ?_ ?_ _)); (all_goals (first | omega | (simp; done) | (simp; omega))))) _ [v] rfl (src_val (by (first | exact heap_alloc2_new _ _ _ | exact heap_alloc2_old _ _ _ | exact heap_alloc_new _ _)) 1) (by simp; omega) (by (first | omega | (simp; done) | (simp; omega))) ?_; intro v7 x7 hr7 hp7; obtain ⟨A7, c7, e7, hV7, hA7⟩ := hr7.reads; subst e7; clear hV7 hA7; have hb7 := app_kept hp7 (show Below wr.heap.size wr _ from by (repeat (first | exact Below.refl _ _ | exact k1.out | refine Below.drew ?_ | refine Below.alloc ?_ ?_ _)); (all_goals (first | omega | (simp; done) | (simp; omega)))) HP.out.row HBX.out (by decide); have d7 := (blk_facts hb7).1 0; have f7 := (blk_facts hb7).2 0; have hv7 := app_box hp7 (show Below (wr.alloc (.cells #[.int .i64 v.tag, .string (bs v.text), .int .u64 v.bits, .string (bs v.cls), .string (bs v.name), .string (bs v.desc)] 28)).heap.size (wr.alloc (.cells #[.int .i64 v.tag, .string (bs v.text), .int .u64 v.bits, .string (bs v.cls), .string (bs v.name), .string (bs v.desc)] 28)) _ from by (repeat (first | exact Below.refl _ _ | refine Below.drew ?_ | refine Below.alloc ?_ ?_ _)); (all_goals (first | omega | (simp; done) | (simp; omega)))) HP.out.row; have HV7 := Lib.hid hv7; have HB7 := Lib.hid hb7; have HR7 := Lib.hid hr7; clear hv7 hr7; have GRO := Lib.hid (app_grown hp7 (show Below wr.heap.size wr _ from by (repeat (first | exact Below.refl _ _ | exact k1.out | refine Below.drew ?_ | refine Below.alloc ?_ ?_ _)); (all_goals (first | omega | (simp; done) | (simp; omega))))))
          | (go_must (trace_state; fail))))
        all_goals
          go_wp2_with fail
          clear d7 f7 hb7
          have hmid := mid_mk HP.out H9.out HAP.out HB.out HK.out GRO.out HR7.out HB7.out HV7.out
          rw [List.length_append] at hmid
          go_meet
          case rel => exact ⟨rfl, hmid⟩
      case rest =>
        obtain ⟨rfl, u', hbx, hru, hnu, h9', hap', hvb, hB', hK'⟩ := hcut
        have MK := Lib.hid hK'
        clear hK'
        have MR := Lib.hid hru
        have MN := Lib.hid hnu
        have M9 := Lib.hid h9'
        have MA := Lib.hid hap'
        have MV := Lib.hid hvb
        have MB := Lib.hid hB'
        have MX := Lib.hid hbx
        have m0 := (blk_facts hbx).1 0
        have m1 := (blk_facts hbx).1 1
        have m2 := (blk_facts hbx).1 2
        obtain ⟨d0, d1, d2, d3, d4, d5⟩ := hvb.at_
        have hvz := hvb.lt
        have hbc := (Array.getElem?_eq_some_iff.1 hbx).1
        have hmne := hnu.ne hbx
        have HMNE := Lib.hid hmne
        have hm1 : n < maxLen := by unfold maxLen; have := HP.out.hn; omega
        have HM1 := Lib.hid hm1
        have HI64 := Lib.hid (show I64 (nx : Int) by unfold I64; omega)
        clear hbx hru hnu h9' hap' hvb hB' hmne hm1 c0 c1 c2 c3 c4 c5
        go_wp2_with fail
        refine wp_region_draw_tail 9 (by kernel_rfl) (by kernel_rfl) ?_
        simp only [List.take_succ_cons, List.take_zero, List.drop_succ_cons, List.drop_zero]
        repeat (go_big_quiet_step (fail))
        refine wpQuiet_nil ?_
        intro q1
        have NR := Lib.hid (show VRow (wc.drewN q1) base u' (P ++ [v]) from MR.out)
        have NN := Lib.hid (show VNum (wc.drewN q1) m n (fun x => ((Pv.num P x : Nat) : Int)) from MN.out)
        have N9 := Lib.hid (show VRow (wc.drewN q1) base (.slice (some ⟨g, o, none⟩) D.length c9) D from M9.out)
        have NV := Lib.hid (show VBox (wc.drewN q1) wr.heap.size v from MV.out)
        have NX := Lib.hid (show (wc.drewN q1).heap[b]? = some (.cells #[u', .map (some m), .int .i64 (nx : Int)] 83 (0, 0)) from MX.out)
        have NB := Lib.hid (below_drewN MB.out q1)
        have NK := Lib.hid (show MapsKept m w (wc.drewN q1) from MK.out)
        clear MK
        clear MR MN M9 MV MX MB m0 m1 m2 d0 d1 d2 d3 d4 d5 hvz hbc
        generalize wc.drewN q1 = W2 at *
        have hmv := NN.out.ne NV.out
        have HMV := Lib.hid hmv
        have hrl : P.length ≤ 200000 := hol
        have hbne : ¬ b = wr.heap.size := by omega
        have hbne' : ¬ wr.heap.size = b := by omega
        clear hmv
        go_wp2_with (at_mapUpdate; refine wpList_numPut rfl _ _ _ rfl m n (fun x => ((Pv.num P x : Nat) : Int)) v nx rfl NN.out HM1.out HFK.out rfl rfl HI64.out ?_; intro w5 hn5 hg5; have hb5 := (hg5.block b (Array.getElem?_eq_some_iff.1 NX.out).1 (fun e => HMNE.out (Option.some.inj e).symm)).trans NX.out; have m2 := (blk_facts hb5).1 2; have g2 := (blk_facts hb5).2 2; have hv5 : VBox w5 wr.heap.size v := (hg5.block _ NV.out.lt (fun e => HMV.out (Option.some.inj e).symm)).trans NV.out; obtain ⟨d0, d1, d2, d3, d4, d5⟩ := hv5.at_; have hvz := hv5.lt; have HB5 := Lib.hid hb5; have HG5 := Lib.hid hg5; have HN5 := Lib.hid hn5; have HV5 := Lib.hid hv5; clear hb5 hg5 hn5 hv5)
        refine (wide_any v.tag _).mono ?_
        rintro e w6 ⟨rfl, rfl⟩
        have hb6 := box_set HB5.out (o := 2) (.int .i64 ((nx : Int) + 1)) rfl
        have hg6 := grownBy_setBox w5 b 2 HB5.out (.int .i64 ((nx : Int) + 1))
        have hb7 := box_set hb6 (o := 2) (.int .i64 ((nx : Int) + 1 + 1)) rfl
        have hg7 := grownBy_setBox _ b 2 hb6 (.int .i64 ((nx : Int) + 1 + 1))
        have hbase2 : base ≤ W2.heap.size := Nat.le_trans hbase (Nat.le_of_lt (Array.getElem?_eq_some_iff.1 NX.out).1)
        cases hw : v.wide with
        | true =>
          have hroom : v.room = 2 := by unfold Pv.room; rw [hw]; rfl
          have hwt : (v.tag == 5 || v.tag == 6) = true := hw
          have HST := Lib.hid (pool_step (v := v) NR.out N9.out NN.out NB.out NK.out hbase2 hbase HP.out.hm HP.out.hn HG5.out HN5.out HNW.out HNX.out HB5.out (grownBy_trans hg6 hg7 (.inl rfl)) (by
            rw [hroom]
            have : ((nx + 2 : Nat) : Int) = (nx : Int) + 1 + 1 := by omega
            rw [this]; exact hb7))
          have m3 := (blk_facts hb6).1 2
          have g3 := (blk_facts hb6).2 2
          rw [hwt]
          clear hb6 hg6 hb7 hg7 hw hroom hwt m2 g2 d0 d1 d2 d3 d4 d5
          go_wp2_with fail
          go_roundw
          case rel => exact ⟨i + 1, u', n + 1, by omega, by go_num, by rw [HSN.out]; exact HST.out.1, HST.out.2.1, MA.out, HST.out.2.2.1, HST.out.2.2.2⟩
          case measure => simp [intOf]; omega
        | false =>
          have hroom : v.room = 1 := by unfold Pv.room; rw [hw]; rfl
          have hwt : (v.tag == 5 || v.tag == 6) = false := hw
          have HST := Lib.hid (pool_step (v := v) NR.out N9.out NN.out NB.out NK.out hbase2 hbase HP.out.hm HP.out.hn HG5.out HN5.out HNW.out HNX.out HB5.out hg6 (by
            rw [hroom]
            have : ((nx + 1 : Nat) : Int) = (nx : Int) + 1 := by omega
            rw [this]; exact hb6))
          rw [hwt]
          clear hb6 hg6 hb7 hg7 hw hroom hwt m2 g2 d0 d1 d2 d3 d4 d5
          go_wp2_with fail
          go_roundw
          case rel => exact ⟨i + 1, u', n + 1, by omega, by go_num, by rw [HSN.out]; exact HST.out.1, HST.out.2.1, MA.out, HST.out.2.2.1, HST.out.2.2.2⟩
          case measure => simp [intOf]; omega
    · obtain rfl : i = D.length := by omega
      have p1 : decide ((D.length : Int) < (D.length : Int)) = false := decide_eq_false (by omega)
      have p2 : decide (D.length < D.length) = false := decide_eq_false (by omega)
      rw [List.take_length] at HP
      have HPD := Lib.hid (show PoolS wr base b u m n (O ++ sd Pv.lt l) by rw [HDG.out]; exact HP.out)
      go_wp2
      go_end0
      exact ⟨u, n, rfl, HPD.out, HB.out, HK.out, fun k hk => HPD.out.row.lt hk⟩
end Go.Proofs.Ytdmiljaiglaacaa

/- The walks of layer 28: how many there are of a tag, the value of a number, a value's number. -/
namespace Go.Proofs.Ytdmiljaiglaacaa
open Go.RowKit Go.Maps

theorem val_ret2 {fn : Func} {R : Ending → World → Prop} {a : Act} {w : World} {p u g : Nat} {v : Pv} {x : Value} (hf : fn.results = #[.cell p 28, .tmp u]) (hp : a.tmps.getD p undef = .pointer (some ⟨g, 0, none⟩)) (hu : a.tmps.getD u undef = x) (hb : VBox w g v) (hR : R (.returned (.tuple #[vv v, x])) w) (hd : a.defers = [] := by rfl) : bodyPost Try.prog fn R .ret a w :=
  bodyPost_ret (by
    rw [results_cell_tmp hf, hp, hu]
    simp only [asAddr, Sem.run_pure, Result.andThen_ok, run_loadVar_row w g 28 28 _ _ _ hb Try.underlying28 rfl sizeVal]
    rfl) hd hR
/-- A value stored over a box. -/
def stored (w : World) (b : Nat) (v : Pv) : World :=
  (((((w.setCell ⟨b, 0, none⟩ (.int .i64 v.tag)).setCell ⟨b, 1, none⟩ (.string (bs v.text))).setCell ⟨b, 2, none⟩ (.int .u64 v.bits)).setCell ⟨b, 3, none⟩ (.string (bs v.cls))).setCell ⟨b, 4, none⟩ (.string (bs v.name))).setCell ⟨b, 5, none⟩ (.string (bs v.desc))
theorem vbox_store {w : World} {b : Nat} {v0 : Pv} (h : VBox w b v0) (v : Pv) : VBox (stored w b v) b v :=
  box_set (box_set (box_set (box_set (box_set (box_set h _ rfl) _ rfl) _ rfl) _ rfl) _ rfl) _ rfl
theorem below_store {w0 w : World} {B b : Nat} (h : Below B w0 w) (hb : B ≤ b) (v : Pv) : Below B w0 (stored w b v) :=
  (((((h.setCell (p := ⟨b, 0, none⟩) hb _).setCell (p := ⟨b, 1, none⟩) hb _).setCell (p := ⟨b, 2, none⟩) hb _).setCell (p := ⟨b, 3, none⟩) hb _).setCell (p := ⟨b, 4, none⟩) hb _).setCell (p := ⟨b, 5, none⟩) hb _
theorem zero_cells {w : World} {b : Nat} (h : VBox w b Pv.zero) : w.cell? ⟨b, 0, none⟩ = some (.int .i64 0) ∧ w.cell? ⟨b, 1, none⟩ = some (.string ⟨#[]⟩) ∧ w.cell? ⟨b, 2, none⟩ = some (.int .u64 0) ∧
    w.cell? ⟨b, 3, none⟩ = some (.string ⟨#[]⟩) ∧ w.cell? ⟨b, 4, none⟩ = some (.string ⟨#[]⟩) ∧ w.cell? ⟨b, 5, none⟩ = some (.string ⟨#[]⟩) := h.at_
/-- The table of these values, which rise. -/
def TabOf (x : World) (base b m n : Nat) (us : Nat → Value) (O : List Pv) : Prop := TabS x base b m n us (fun t => Pv.row O t) (Pv.nums O O.length) (fun v => decide (v ∈ O))
theorem TabOf.grow {x y : World} {base b m n : Nat} {us : Nat → Value} {O : List Pv} (h : TabOf x base b m n us O) (k : Below x.heap.size x y) : TabOf y base b m n us O := TabS.grow h k
theorem len_nil (tag : Int) (w : World) : Calls Try.prog 76 #[.pointer none, .int .i64 tag] w fun e w' => e = .returned (.int .i64 0) ∧ w' = w := by
  go_enter Try.func76, Try.ntmps76
  go_wp2
  go_ret
  exact ⟨rfl, rfl⟩
set_option maxRecDepth 100000 in
theorem len_any (base b m n : Nat) (us : Nat → Value) (O : List Pv) (tag : Int) (w : World) (h : TabOf w base b m n us O) (hok : ∀ v ∈ O, v.chk 0 9 5 = 0) :
    Calls Try.prog 76 #[.pointer (some ⟨b, 0, none⟩), .int .i64 tag] w fun e w' => e = .returned (.int .i64 ((Pv.row O tag).length : Nat)) ∧ w' = w := by
  by_cases ht : 0 ≤ tag ∧ tag ≤ 12
  · obtain ⟨t, rfl⟩ : ∃ t : Nat, tag = (t : Int) := ⟨tag.toNat, by omega⟩
    have htl : t < 13 := by omega
    obtain ⟨A, c, e, _⟩ := (h.rows t htl).reads
    have hc := h.box.cell htl
    rw [e] at hc
    have p1 : decide ((t : Int) < 0) = false := decide_eq_false (by omega)
    have p2 : decide (12 < (t : Int)) = false := decide_eq_false (by omega)
    have p3 : decide (t < 13) = true := decide_eq_true htl
    have p4 : (t : Int) < 13 := by omega
    have hz := h.box.lt
    clear e h hok
    go_enter Try.func76, Try.ntmps76
    go_wp2
    go_ret
    exact ⟨rfl, rfl⟩
  · have hn : Pv.row O tag = [] := row_none hok (by omega)
    rw [hn]
    clear h hok hn
    by_cases h1 : tag < 0
    · have p1 : decide (tag < 0) = true := decide_eq_true h1
      go_enter Try.func76, Try.ntmps76
      go_wp2
      go_ret
      exact ⟨rfl, rfl⟩
    · have p1 : decide (tag < 0) = false := decide_eq_false h1
      have p2 : decide (12 < tag) = true := decide_eq_true (by omega)
      go_enter Try.func76, Try.ntmps76
      go_wp2
      go_ret
      exact ⟨rfl, rfl⟩
set_option maxRecDepth 100000 in
theorem at_none (p : Value) (ln : Nat) (tag i : Int) (w : World) (hlen : ∀ y, Below w.heap.size w y → Calls Try.prog 76 #[p, .int .i64 tag] y fun e w' => e = .returned (.int .i64 (ln : Nat)) ∧ w' = y) (hp : p = .pointer none ∨ ∃ b, p = .pointer (some ⟨b, 0, none⟩)) (hi : i < 0 ∨ (ln : Int) ≤ i) :
    Calls Try.prog 65 #[p, .int .i64 tag, .int .i64 i] w fun e w' => e = .returned (.tuple #[vv Pv.zero, .bool false]) ∧ Below w.heap.size w w' := by
  have HL := Lib.hid hlen
  have K0 := Lib.hid ((Below.refl w.heap.size w).alloc (Nat.le_refl _) (.cells #[.int .i64 0, .string ⟨#[]⟩, .int .u64 0, .string ⟨#[]⟩, .string ⟨#[]⟩, .string ⟨#[]⟩] 28))
  have Q0 := Lib.hid (show VBox (w.alloc (.cells #[.int .i64 0, .string ⟨#[]⟩, .int .u64 0, .string ⟨#[]⟩, .string ⟨#[]⟩, .string ⟨#[]⟩] 28)) w.heap.size Pv.zero from heap_alloc_new _ _)
  clear hlen
  by_cases h1 : i < 0
  · have p1 : decide (i < 0) = true := decide_eq_true h1
    clear hp
    go_enter Try.func65, Try.ntmps65
    go_upto_region 1 with fail
    generalize w.alloc (.cells #[.int .i64 0, .string ⟨#[]⟩, .int .u64 0, .string ⟨#[]⟩, .string ⟨#[]⟩, .string ⟨#[]⟩] 28) = W at K0 Q0 ⊢
    obtain ⟨z0, z1, z2, z3, z4, z5⟩ := zero_cells Q0.out
    have f0 := (blk_facts Q0.out).2 0
    have f1 := (blk_facts Q0.out).2 1
    have f2 := (blk_facts Q0.out).2 2
    have f3 := (blk_facts Q0.out).2 3
    have f4 := (blk_facts Q0.out).2 4
    have f5 := (blk_facts Q0.out).2 5
    have hz6 := Q0.out.lt
    go_wp2_with fail
    have hfin := vbox_store Q0.out Pv.zero
    have hbel := below_store K0.out (Nat.le_refl _) Pv.zero
    unfold stored at hfin hbel
    have e0 : ((0 : Nat) : Int) = 0 := rfl
    have e1 : bs [] = (⟨#[]⟩ : ByteArray) := rfl
    simp only [Pv.zero, e0, e1] at hfin hbel
    exact val_ret2 (g := w.heap.size) (v := Pv.zero) (x := .bool false) rfl rfl rfl hfin ⟨rfl, hbel⟩
  · have p1 : decide (i < 0) = false := decide_eq_false h1
    have p2 : decide ((ln : Int) ≤ i) = true := decide_eq_true (by omega)
    clear hp
    go_enter Try.func65, Try.ntmps65
    go_upto_region 1 with fail
    generalize w.alloc (.cells #[.int .i64 0, .string ⟨#[]⟩, .int .u64 0, .string ⟨#[]⟩, .string ⟨#[]⟩, .string ⟨#[]⟩] 28) = W at K0 Q0 ⊢
    go_wp2_with fail
    refine (HL.out W K0.out).mono ?_
    rintro e w1 ⟨rfl, rfl⟩
    obtain ⟨z0, z1, z2, z3, z4, z5⟩ := zero_cells Q0.out
    have f0 := (blk_facts Q0.out).2 0
    have f1 := (blk_facts Q0.out).2 1
    have f2 := (blk_facts Q0.out).2 2
    have f3 := (blk_facts Q0.out).2 3
    have f4 := (blk_facts Q0.out).2 4
    have f5 := (blk_facts Q0.out).2 5
    have hz6 := Q0.out.lt
    go_wp2_with fail
    have hfin := vbox_store Q0.out Pv.zero
    have hbel := below_store K0.out (Nat.le_refl _) Pv.zero
    unfold stored at hfin hbel
    have e0 : ((0 : Nat) : Int) = 0 := rfl
    have e1 : bs [] = (⟨#[]⟩ : ByteArray) := rfl
    simp only [Pv.zero, e0, e1] at hfin hbel
    exact val_ret2 (g := w.heap.size) (v := Pv.zero) (x := .bool false) rfl rfl rfl hfin ⟨rfl, hbel⟩
theorem at_nil (tag i : Int) (w : World) : Calls Try.prog 65 #[.pointer none, .int .i64 tag, .int .i64 i] w fun e w' => e = .returned (.tuple #[vv Pv.zero, .bool false]) ∧ Below w.heap.size w w' :=
  at_none _ 0 tag i w (fun w _ => len_nil tag w) (.inl rfl) (by omega)
theorem at_out (base b m n : Nat) (us : Nat → Value) (O : List Pv) (tag i : Int) (w : World) (h : TabOf w base b m n us O) (hok : ∀ v ∈ O, v.chk 0 9 5 = 0) (hi : i < 0 ∨ ((Pv.row O tag).length : Int) ≤ i) :
    Calls Try.prog 65 #[.pointer (some ⟨b, 0, none⟩), .int .i64 tag, .int .i64 i] w fun e w' => e = .returned (.tuple #[vv Pv.zero, .bool false]) ∧ Below w.heap.size w w' :=
  at_none _ _ tag i w (fun y k => len_any base b m n us O tag y (h.grow k) hok) (.inr ⟨_, rfl⟩) hi
set_option maxRecDepth 100000 in
theorem at_in (base b m n : Nat) (us : Nat → Value) (O : List Pv) (tag : Int) (i : Nat) (v : Pv) (w : World) (h : TabOf w base b m n us O) (hok : ∀ v ∈ O, v.chk 0 9 5 = 0) (hv : (Pv.row O tag)[i]? = some v) :
    Calls Try.prog 65 #[.pointer (some ⟨b, 0, none⟩), .int .i64 tag, .int .i64 i] w fun e w' => e = .returned (.tuple #[vv v, .bool true]) ∧ Below w.heap.size w w' := by
  have hm := mem_row.1 (List.mem_of_getElem? hv)
  have htg := chk_tag (hok v hm.1)
  rw [hm.2] at htg
  obtain ⟨t, rfl⟩ : ∃ t : Nat, tag = (t : Int) := ⟨tag.toNat, by omega⟩
  have htl : t < 13 := by omega
  have hil : i < (Pv.row O (t : Int)).length := (List.getElem?_eq_some_iff.1 hv).1
  have K0 := Lib.hid ((Below.refl w.heap.size w).alloc (Nat.le_refl _) (.cells #[.int .i64 0, .string ⟨#[]⟩, .int .u64 0, .string ⟨#[]⟩, .string ⟨#[]⟩, .string ⟨#[]⟩] 28))
  have Q0 := Lib.hid (show VBox (w.alloc (.cells #[.int .i64 0, .string ⟨#[]⟩, .int .u64 0, .string ⟨#[]⟩, .string ⟨#[]⟩, .string ⟨#[]⟩] 28)) w.heap.size Pv.zero from heap_alloc_new _ _)
  have HL := Lib.hid (len_any base b m n us O (t : Int) _ (h.grow K0.out) hok)
  have hb1 := (h.grow K0.out).box
  have hr1 := (h.grow K0.out).rows t htl
  obtain ⟨A, c, eu, hV, hA⟩ := hr1.reads
  have hc := hb1.cell htl
  rw [eu] at hc
  have hbz := hb1.lt
  obtain ⟨g, o, x, rfl, hg, hx, c0, c1, c2, c3, c4, c5⟩ := hV.at_ hil
  rw [hv] at hx
  cases hx
  have p1 : decide ((i : Int) < 0) = false := decide_eq_false (by omega)
  have p2 : decide (((Pv.row O (t : Int)).length : Int) ≤ (i : Int)) = false := decide_eq_false (by omega)
  have p2' : decide ((Pv.row O (t : Int)).length ≤ i) = false := decide_eq_false (by omega)
  have p3 : decide (t < 13) = true := decide_eq_true htl
  have p4 : (t : Int) < 13 := by omega
  have p5 : decide (i < (Pv.row O (t : Int)).length) = true := decide_eq_true hil
  have p6 : (i : Int) < ((Pv.row O (t : Int)).length : Int) := by omega
  clear h hok hv hm hb1 hr1 hV eu hA
  go_enter Try.func65, Try.ntmps65
  go_upto_region 1 with fail
  generalize w.alloc (.cells #[.int .i64 0, .string ⟨#[]⟩, .int .u64 0, .string ⟨#[]⟩, .string ⟨#[]⟩, .string ⟨#[]⟩] 28) = W at *
  go_wp2_with fail
  refine HL.out.mono ?_
  rintro e w1 ⟨rfl, rfl⟩
  obtain ⟨z0, z1, z2, z3, z4, z5⟩ := zero_cells Q0.out
  have f0 := (blk_facts Q0.out).2 0
  have f1 := (blk_facts Q0.out).2 1
  have f2 := (blk_facts Q0.out).2 2
  have f3 := (blk_facts Q0.out).2 3
  have f4 := (blk_facts Q0.out).2 4
  have f5 := (blk_facts Q0.out).2 5
  have hz6 := Q0.out.lt
  clear HL
  go_wp2_with fail
  have hfin := vbox_store Q0.out v
  have hbel := below_store K0.out (Nat.le_refl _) v
  unfold stored at hfin hbel
  exact val_ret2 (g := w.heap.size) (v := v) (x := .bool true) rfl rfl rfl hfin ⟨rfl, hbel⟩
set_option maxRecDepth 100000 in
theorem tnumber_any (base b m n : Nat) (us : Nat → Value) (O : List Pv) (v : Pv) (w : World) (h : TabOf w base b m n us O) (hv : v.fitsK) :
    Calls Try.prog 64 #[.pointer (some ⟨b, 0, none⟩), vv v] w fun e w' => e = .returned (.tuple #[.int .i64 (Pv.nums O O.length v), .bool (decide (v ∈ O))]) ∧ Below w.heap.size w w' := by
  have k0 := Lib.hid ((Below.refl w.heap.size w).alloc (Nat.le_refl _) (.cells #[.int .i64 v.tag, .string (bs v.text), .int .u64 v.bits, .string (bs v.cls), .string (bs v.name), .string (bs v.desc)] 28))
  have q0 := Lib.hid (vbox_new w v)
  have hp1 := h.grow k0.out
  have m1 := hp1.box.map
  have hbz := h.box.lt
  have hlk := fun q => VTab.look (show VTab ((w.alloc (.cells #[.int .i64 v.tag, .string (bs v.text), .int .u64 v.bits, .string (bs v.cls), .string (bs v.name), .string (bs v.desc)] 28)).drewN q) m n _ _ from hp1.num) hv
  have hbne : ¬ b = w.heap.size := by omega
  clear h hp1
  unfold vv at hlk ⊢
  go_enter Try.func64, Try.ntmps64
  go_wp2_with fail
  go_quiet (fail)
  go_wp2
  go_ret2
  exact ⟨rfl, below_drewN k0.out _⟩
end Go.Proofs.Ytdmiljaiglaacaa
