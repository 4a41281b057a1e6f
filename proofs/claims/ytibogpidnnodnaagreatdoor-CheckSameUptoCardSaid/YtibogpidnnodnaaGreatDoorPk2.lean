/- Joined texts: Slice, Rules, UtfPlain, Plain, Bits. -/
import Derived.Test.YtibogpidnnodnaaGreatDoorProg
import Derived.Test.YtibogpidnnodnaaGreatDoorRows
import Derived.ProofKit
import Derived.OpenShut
import Derived.Deep.Slices
import Derived.SizedLaws
import Derived.ChangeArms
import Derived.Below
import Derived.Test.YtibogpidnnodnaaGreatDoorPk1
import Derived.Lib.Split
import Derived.Lib.SplitLaws
import Derived.Lib.IndexBytes
import Derived.Lib.IndexAny
import Derived.WalkKit
/- Rows of things of any kind: what is read of a handed-in slice; what is read at a place. No program. -/
namespace Go.Proofs.YtibogpidnnodnaaGreatDoor
open Go.ChangeShapes Go.WideShapes Go.ChangeAt Go.RowKit Go.Deep

theorem addr_plus (g o j : Nat) : Addr.add ⟨g, o, none⟩ j = ⟨g, o + j, none⟩ := by unfold Addr.add; split <;> simp_all
/-- These cells lie from a place on. -/
def CellsAt (w : World) (g o : Nat) (cs : List Value) : Prop := ∀ (k : Nat) u, cs[k]? = some u → w.cell? ⟨g, o + k, none⟩ = some u
theorem CellsAt.grow {w w' : World} {g o : Nat} {cs : List Value} (h : CellsAt w g o cs) (k : Below w.heap.size w w') (hg : g < w.heap.size) : CellsAt w' g o cs := fun j u hu => (k.cell (p := ⟨g, o + j, none⟩) hg).trans (h j u hu)
theorem CellsAt.part {w : World} {g o : Nat} {cs : List Value} (h : CellsAt w g o cs) (a n : Nat) : CellsAt w g (o + a) ((cs.drop a).take n) := fun k u hu => by
  rw [List.getElem?_take] at hu
  split at hu
  · rw [List.getElem?_drop] at hu
    rw [Nat.add_assoc]
    exact h _ u hu
  · cases hu
/-- A row that reads as these things: each fills so many cells. -/
def Sl {Y : Type} (size : Nat) (R : World → List Value → Y → Prop) (w : World) (A : Option Addr) (c : Nat) (ys : List Y) : Prop :=
  ys.length ≤ c ∧ (0 < ys.length → ∃ g o, A = some ⟨g, o, none⟩ ∧ g < w.heap.size ∧ ∀ (j : Nat) y, ys[j]? = some y → ∃ cs : List Value, R w cs y ∧ cs.length = size ∧ CellsAt w g (o + j * size) cs)
section
variable {Y : Type} {size : Nat} {R : World → List Value → Y → Prop} {w w' : World} {A : Option Addr} {c : Nat} {ys : List Y}
theorem Sl.nil (w : World) (A : Option Addr) (c : Nat) : Sl size R w A c [] := ⟨Nat.zero_le _, fun h => by simp at h⟩
theorem Sl.grow (h : Sl size R w A c ys) (k : Below w.heap.size w w') (hR : ∀ cs y, R w cs y → R w' cs y) : Sl size R w' A c ys :=
  ⟨h.1, fun hp => by
    obtain ⟨g, o, e, hg, hc⟩ := h.2 hp
    refine ⟨g, o, e, Nat.lt_of_lt_of_le hg k.size, fun j y hy => ?_⟩
    obtain ⟨cs, h1, h2, h3⟩ := hc j y hy
    exact ⟨cs, hR cs y h1, h2, h3.grow k hg⟩⟩
theorem Sl.at_ (h : Sl size R w A c ys) {i : Nat} (hi : i < ys.length) : ∃ g o y cs, A = some ⟨g, o, none⟩ ∧ g < w.heap.size ∧ ys[i]? = some y ∧ R w cs y ∧ cs.length = size ∧ CellsAt w g (o + i * size) cs := by
  obtain ⟨g, o, e, hg, hc⟩ := h.2 (by omega)
  obtain ⟨cs, h1, h2, h3⟩ := hc i _ (List.getElem?_eq_getElem hi)
  exact ⟨g, o, _, cs, e, hg, List.getElem?_eq_getElem hi, h1, h2, h3⟩
end
theorem weights_in {H : Type} {P : Program} {e : TypeId} : ∀ {ds : List (DataW H)} {d : DataW H}, d ∈ ds → ∀ n ∈ d.weights P e, n ∈ DataW.weightsAll P e ds
  | d0 :: ds, d, h, n, hn => by
    simp only [DataW.weightsAll, List.mem_append]
    rcases List.mem_cons.1 h with rfl | h
    · exact .inl hn
    · exact .inr (weights_in h n hn)
theorem bulk_all {H : Type} : ∀ l : List (DataW H), Rows.uptoBulkAll l = (l.map Rows.uptoBulk).sum
  | [] => by simp [Rows.uptoBulkAll]
  | d :: l => by rw [Rows.uptoBulkAll, bulk_all l]; rfl
theorem sum_le {α β : Type} (f : α → Nat) (g : β → Nat) : ∀ (a : List α) (b : List β), a.length = b.length → (∀ (i : Nat) x y, a[i]? = some x → b[i]? = some y → f x ≤ g y) → (a.map f).sum ≤ (b.map g).sum
  | [], [], _, _ => Nat.le_refl _
  | x :: a, y :: b, h, k => by
    rw [List.map_cons, List.map_cons, List.sum_cons, List.sum_cons]
    have h1 := k 0 x y rfl rfl
    have h2 := sum_le f g a b (by simpa using h) (fun i u v hu hv => k (i + 1) u v (by simpa using hu) (by simpa using hv))
    omega
/-- What is read of a handed-in slice, if each of its things reads. -/
theorem view_sl {P : Program} {H : Type} {enc : TypeId × Value → H} {W : World} {base : Nat} {sp : Nat → Bool} {held : Bool} {Y : Type} {t e : TypeId} {size : Nat} {R : World → List Value → Y → Prop} {good : Y → Prop} {blk : Y → Nat}
    (ht : P.underlying t = some (.slice e)) (hsz : P.cellsOf e = size) (h0 : 0 < size) (hby : 0 < P.bytesOf e)
    (hE : ∀ (fuel : Nat) (cs : List Value) (x : DataW H × List MemPlace), DataW.trod enc P W base sp held fuel e cs = some x → (∀ n ∈ x.1.weights P e, n ≤ reachBytes) → ∃ y, good y ∧ cs.length = size ∧ R W cs y ∧ blk y ≤ Rows.uptoBulk x.1)
    {fuel : Nat} {cs : List Value} {x : DataW H × List MemPlace} (h : DataW.trod enc P W base sp held fuel t cs = some x) (hw : ∀ n ∈ x.1.weights P t, n ≤ reachBytes) :
    ∃ A c ys, cs = [.slice A (List.length ys) c] ∧ Sl size R W A c ys ∧ ys.length ≤ 140737488355328 ∧ (A = none → c = 0) ∧ (∀ y ∈ ys, good y) ∧ (ys.map blk).sum + 1 ≤ Rows.uptoBulk x.1 := by
  rcases open_slice ht h with ⟨rfl, rfl⟩ | ⟨a, len, cap, m, n, D, Pl, rfl, _, hl, _, hm, rfl, hx⟩
  · exact ⟨none, 0, [], rfl, Sl.nil _ _ _, by simp, fun _ => rfl, (fun v hv => by cases hv), by simp [Rows.uptoBulk]⟩
  · have hlm : len ≤ m := by rw [hm]; split <;> omega
    rw [hsz] at hx
    have hex : ∀ i, i < len → ∃ y, (good y ∧ blk y ≤ Rows.uptoBulk (D i)) ∧ ∃ cs', W.cells? base (a.add (i * size)) size = some cs' ∧ R W cs' y := fun i hi => by
      obtain ⟨cs', h1, h2⟩ := hx i (by omega)
      obtain ⟨y, hy, _, hr, hbk⟩ := hE _ _ _ h2 (fun n hn => hw n (by
        simp only [DataW.weights, ht, List.mem_cons, List.mem_append]
        exact .inr (.inl (weights_in (List.mem_map.2 ⟨i, List.mem_range.2 hi, rfl⟩) n hn))))
      exact ⟨y, ⟨hy, hbk⟩, cs', h1, hr⟩
    obtain ⟨f, hf⟩ : ∃ f : (i : Nat) → i < len → Y, ∀ i (hi : i < len), (good (f i hi) ∧ blk (f i hi) ≤ Rows.uptoBulk (D i)) ∧ ∃ cs', W.cells? base (a.add (i * size)) size = some cs' ∧ R W cs' (f i hi) :=
      ⟨fun i hi => Classical.choose (hex i hi), fun i hi => Classical.choose_spec (hex i hi)⟩
    have hll : (List.ofFn fun i : Fin len => f i.val i.isLt).length = len := List.length_ofFn
    have hat : ∀ (j : Nat) y, (List.ofFn fun i : Fin len => f i.val i.isLt)[j]? = some y → ∃ hj : j < len, y = f j hj := fun j y hy => by
      have hj := (List.getElem?_eq_some_iff.1 hy).1
      rw [hll] at hj
      refine ⟨hj, ?_⟩
      rw [List.getElem?_ofFn] at hy
      simp only [hj, dite_true, Option.some.injEq] at hy
      exact hy.symm
    have hr2 : reachBytes + 24 ≤ 140737488355328 := by decide
    refine ⟨some a, cap, List.ofFn fun i : Fin len => f i.val i.isLt, by rw [hll], ⟨by rw [hll]; exact hl, fun hp => ?_⟩, ?_, (fun e => by cases e), fun v hv => ?_, ?_⟩
    · rw [hll] at hp
      obtain ⟨_, cs0, h1, _⟩ := hf 0 hp
      obtain ⟨_, hln, hc⟩ := World.cells?_some h1
      have h2 := hc 0 h0
      rw [Nat.zero_mul] at h2
      obtain ⟨u0, hu0⟩ : ∃ u0, cs0[0]? = some u0 := ⟨_, List.getElem?_eq_getElem (by omega)⟩
      rw [hu0] at h2
      obtain ⟨g, o, s⟩ := a
      have hs : s = none := by simpa [Addr.add] using World.cell?_spot h2
      subst hs
      refine ⟨g, o, rfl, by simpa [Addr.add] using World.block_lt_of_cell? W _ h2, fun j y hy => ?_⟩
      obtain ⟨hj, rfl⟩ := hat j y hy
      obtain ⟨_, cs', k2, k3⟩ := hf j hj
      obtain ⟨_, hln', hc'⟩ := World.cells?_some k2
      refine ⟨cs', k3, hln', fun k u hu => ?_⟩
      have hk := (List.getElem?_eq_some_iff.1 hu).1
      have := hc' k (by omega)
      rw [addr_plus, addr_plus, hu] at this
      exact this
    · rw [hll]
      have := hw ((((List.range len).map D).length + ((List.range (m - len)).map fun j => D (len + j)).length) * P.bytesOf e) (by simp only [DataW.weights, ht]; exact List.mem_cons_self ..)
      simp only [List.length_map, List.length_range] at this
      have h5 : len * 1 ≤ (len + (m - len)) * P.bytesOf e := Nat.mul_le_mul (by omega) hby
      omega
    · obtain ⟨j, hj, rfl⟩ := List.mem_iff_getElem.1 hv
      obtain ⟨hj2, e⟩ := hat j _ (List.getElem?_eq_getElem hj)
      rw [e]
      exact (hf j hj2).1.1
    · have h9 := sum_le blk Rows.uptoBulk (List.ofFn fun i : Fin len => f i.val i.isLt) ((List.range len).map D) (by simp) (fun i y d hy hd => by
        obtain ⟨hj, rfl⟩ := hat i y hy
        have : d = D i := by
          rw [List.getElem?_map, List.getElem?_range hj] at hd
          exact (Option.some.inj hd).symm
        rw [this]
        exact (hf i hj).1.2)
      simp only [Rows.uptoBulk]
      rw [bulk_all ((List.range len).map D)]
      omega
end Go.Proofs.YtibogpidnnodnaaGreatDoor

/- check's rules, each over closures, steps. -/
namespace Go.Proofs.YtibogpidnnodnaaGreatDoor
open Go.RowKit

structure Rul where
  h : Bool
  e : Int
def Rul.rd (_ : World) (cs : List Value) (y : Rul) : Prop := cs = [.bool y.h, .int .i64 y.e]
/-- The first rule's error that doesn't hold. -/
def rulE : List Rul → Int
  | [] => 0
  | r :: rs => if r.h then rulE rs else r.e
theorem rulE_next {rs : List Rul} {i : Nat} {r : Rul} (h : rulE rs = rulE (rs.drop i)) (hr : rs[i]? = some r) (hh : r.h = true) : rulE rs = rulE (rs.drop (i + 1)) := by
  obtain ⟨hi, rfl⟩ := List.getElem?_eq_some_iff.1 hr
  rw [h, List.drop_eq_getElem_cons hi]
  simp [rulE, hh]
theorem rulE_hit {rs : List Rul} {i : Nat} {r : Rul} (h : rulE rs = rulE (rs.drop i)) (hr : rs[i]? = some r) (hh : r.h = false) : rulE rs = r.e := by
  obtain ⟨hi, rfl⟩ := List.getElem?_eq_some_iff.1 hr
  rw [h, List.drop_eq_getElem_cons hi]
  simp [rulE, hh]
set_option maxHeartbeats 4000000 in
set_option maxRecDepth 100000 in
theorem rules_any (A : Option Addr) (c : Nat) (rs : List Rul) (w : World) (ha : Sl 2 Rul.rd w A c rs) (hn : rs.length ≤ 1000) :
    Calls Tryz.prog 18 #[.slice A rs.length c] w fun e w' => e = .returned (.int .i64 (rulE rs)) ∧ Below w.heap.size w w' := by
  have HA := Lib.hid ha
  clear ha
  go_enter Tryz.func18, Tryz.ntmps18
  go_upto_region 2 with fail
  go_loopw [7] (fun s7 wr => ∃ i : Nat, i ≤ rs.length ∧ s7 = .int .i64 i ∧ rulE rs = rulE (rs.drop i) ∧ Below w.heap.size w wr) (fun s7 _ => rs.length - (intOf s7).toNat)
  case atStart => exact ⟨0, Nat.zero_le _, rfl, rfl, Below.refl _ _⟩
  case round =>
    obtain ⟨i, hil, rfl, he, hK⟩ := hrel
    have K := Lib.hid hK
    have HE := Lib.hid he
    by_cases h1 : i < rs.length
    · obtain ⟨g, o, x, cx, rfl, hg, hx, hrx, _, hcx⟩ := HA.out.at_ h1
      have HCX := Lib.hid (hcx.grow hK hg)
      obtain rfl : cx = [.bool x.h, .int .i64 x.e] := hrx
      have c0 := HCX.out 0 _ rfl
      have c1 := HCX.out 1 _ rfl
      rw [Nat.add_zero] at c0
      have z1 : g < wr.heap.size := Nat.lt_of_lt_of_le hg hK.size
      have i1 : ¬ ((i : Int) < 0) := by omega
      have i2 : (i : Int) < (rs.length : Int) := by omega
      have HX := Lib.hid hx
      have k4 := (Below.refl wr.heap.size wr).alloc (Nat.le_refl _) (.cells #[.bool x.h, .int .i64 x.e] 62)
      have E4 := Lib.hid (heap_alloc_new wr (.cells #[.bool x.h, .int .i64 x.e] 62))
      have K4 := Lib.hid (hK.trans (k4.mono hK.size))
      clear hK he hx hcx hg k4
      go_upto_region 4 with fail
      generalize wr.alloc (.cells #[.bool x.h, .int .i64 x.e] 62) = W4 at E4 K4 ⊢
      have f0 : W4.cell? ⟨wr.heap.size, 0, none⟩ = some (.bool x.h) := by rw [Lib.cell_of_heap E4.out]; rfl
      have f1 : W4.cell? ⟨wr.heap.size, 1, none⟩ = some (.int .i64 x.e) := by rw [Lib.cell_of_heap E4.out]; rfl
      have z4 := (Array.getElem?_eq_some_iff.1 E4.out).1
      clear c0 c1 z1 i1 i2 HCX
      cases hh : x.h with
      | true =>
        have HT := Lib.hid (rulE_next HE.out HX.out hh)
        rw [hh] at f0
        clear hh
        go_wp2_with fail
        exact ⟨⟨i + 1, h1, rfl, HT.out, K4.out⟩, next_less h1⟩
      | false =>
        have HN := Lib.hid (rulE_hit HE.out HX.out hh)
        rw [hh] at f0
        clear hh
        go_wp2_with fail
        go_ret
        exact ⟨by rw [HN.out]; rfl, K4.out⟩
    · have hie : i = rs.length := by omega
      have HN := Lib.hid (show rulE rs = 0 by rw [he, hie, List.drop_length]; rfl)
      clear hK he hie
      go_wp2_with fail
      go_ret
      exact ⟨by rw [HN.out]; rfl, K.out⟩
/-- A closure without arguments, and the error that it tells. -/
structure Stp where
  f : Nat
  cap : Array Value
  e : Int
def Stp.val (s : Stp) : Value := .func (.func s.f) #[] s.cap
/-- The first step's error. -/
def stpE : List Stp → Int
  | [] => 0
  | s :: ss => if s.e = 0 then stpE ss else s.e
theorem stpE_next {rs : List Stp} {i : Nat} {r : Stp} (h : stpE rs = stpE (rs.drop i)) (hr : rs[i]? = some r) (hh : r.e = 0) : stpE rs = stpE (rs.drop (i + 1)) := by
  obtain ⟨hi, rfl⟩ := List.getElem?_eq_some_iff.1 hr
  rw [h, List.drop_eq_getElem_cons hi]
  simp [stpE, hh]
theorem stpE_hit {rs : List Stp} {i : Nat} {r : Stp} (h : stpE rs = stpE (rs.drop i)) (hr : rs[i]? = some r) (hh : r.e ≠ 0) : stpE rs = r.e := by
  obtain ⟨hi, rfl⟩ := List.getElem?_eq_some_iff.1 hr
  rw [h, List.drop_eq_getElem_cons hi]
  simp [stpE, hh]
/-- What a step does in whatever world behind this one. -/
def Stp.does (w : World) (s : Stp) : Prop := (∀ args x, (callFunc s.f args).run Tryz.prog x = .ok (.enter s.f args) x) ∧ ∀ w', Below w.heap.size w w' → Calls Tryz.prog s.f s.cap w' fun e w'' => e = .returned (.int .i64 s.e) ∧ Below w'.heap.size w' w''
/-- A row of steps. -/
def Sts (w : World) (A : Option Addr) (c : Nat) (xs : List Stp) : Prop :=
  xs.length ≤ c ∧ (0 < xs.length → ∃ g o, A = some ⟨g, o, none⟩ ∧ g < w.heap.size ∧ ∀ (j : Nat) x, xs[j]? = some x → w.cell? ⟨g, o + j, none⟩ = some x.val)
theorem Sts.at_ {w : World} {A : Option Addr} {c : Nat} {xs : List Stp} (h : Sts w A c xs) {i : Nat} (hi : i < xs.length) : ∃ g o x, A = some ⟨g, o, none⟩ ∧ g < w.heap.size ∧ xs[i]? = some x ∧ w.cell? ⟨g, o + i, none⟩ = some x.val := by
  obtain ⟨g, o, e, hg, hc⟩ := h.2 (by omega)
  exact ⟨g, o, _, e, hg, List.getElem?_eq_getElem hi, hc i _ (List.getElem?_eq_getElem hi)⟩
set_option maxRecDepth 100000 in
theorem steps1_any (s : Stp) (w : World) (h : s.does w) :
    Calls Tryz.prog 49 #[s.val] w fun r w' => r = .returned (.int .i64 s.e) ∧ Below w.heap.size w w' := by
  have H1 := Lib.hid (h.2 w (Below.refl _ _))
  have eg := h.1
  clear h
  unfold Stp.val
  go_enter Tryz.func49, Tryz.ntmps49
  go_wp2_with fail
  refine H1.out.mono ?_
  rintro e w1 ⟨rfl, hb⟩
  have K := Lib.hid hb
  clear hb H1
  go_wp2_with fail
  go_ret
  exact ⟨rfl, K.out⟩
set_option maxHeartbeats 4000000 in
set_option maxRecDepth 100000 in
theorem eachF_any (A : Option Addr) (c : Nat) (xs : List Stp) (w : World) (ha : Sts w A c xs) (hn : xs.length ≤ 1000)
    (hd : ∀ (i : Nat) s, xs[i]? = some s → (∀ t ∈ xs.take i, t.e = 0) → s.does w) :
    Calls Tryz.prog 48 #[.slice A xs.length c, .func (.func 49) #[] #[]] w fun r w' => r = .returned (.int .i64 (stpE xs)) ∧ Below w.heap.size w w' := by
  have HA := Lib.hid ha
  have HD := Lib.hid hd
  clear ha hd
  go_enter Tryz.func48, Tryz.ntmps48
  go_upto_region 2 with fail
  go_loopw [10] (fun s10 wr => ∃ i : Nat, i ≤ xs.length ∧ s10 = .int .i64 i ∧ stpE xs = stpE (xs.drop i) ∧ (∀ t ∈ xs.take i, t.e = 0) ∧ Below w.heap.size w wr) (fun s10 _ => xs.length - (intOf s10).toNat)
  case atStart => exact ⟨0, Nat.zero_le _, rfl, rfl, fun t ht => (by simp at ht), Below.refl _ _⟩
  case round =>
    obtain ⟨i, hil, rfl, he, hz, hK⟩ := hrel
    have K := Lib.hid hK
    have HE := Lib.hid he
    have HZ := Lib.hid hz
    by_cases h1 : i < xs.length
    · obtain ⟨g, o, x, rfl, hg, hx, hc⟩ := HA.out.at_ h1
      have c1 : wr.cell? ⟨g, o + i, none⟩ = some x.val := by rw [World.cell?_of_block (hK.block g hg)]; exact hc
      have hval : x.val = .func (.func x.f) #[] x.cap := rfl
      have z1 : g < wr.heap.size := Nat.lt_of_lt_of_le hg hK.size
      have i1 : ¬ ((i : Int) < 0) := by omega
      have i2 : (i : Int) < (xs.length : Int) := by omega
      have HX := Lib.hid hx
      have hd := HD.out i x hx hz
      have HC := Lib.hid (steps1_any x wr ⟨hd.1, fun w' k => hd.2 w' (hK.trans (k.mono hK.size))⟩)
      clear hK he hz hx hc hg hd
      generalize hxv : x.val = xv at c1 hval HC
      clear hval
      go_wp2_with fail
      refine HC.out.mono ?_
      rintro e w1 ⟨rfl, hb1⟩
      have K1 := Lib.hid (K.out.trans (hb1.mono K.out.size))
      clear hb1 HC c1 z1 hxv
      by_cases hh : x.e = 0
      · have HT := Lib.hid (stpE_next HE.out HX.out hh)
        have HU := Lib.hid (show ∀ t ∈ xs.take (i + 1), t.e = 0 by
          intro t ht
          rw [List.take_add_one, HX.out] at ht
          rcases List.mem_append.1 ht with ht | ht
          · exact HZ.out t ht
          · simp at ht; rw [ht]; exact hh)
        go_wp2_with fail
        exact ⟨⟨i + 1, h1, rfl, HT.out, HU.out, K1.out⟩, next_less h1⟩
      · have HN := Lib.hid (stpE_hit HE.out HX.out hh)
        have hb : (x.e != 0) = true := by simp [hh]
        go_wp2_with fail
        go_ret
        exact ⟨by rw [HN.out]; rfl, K1.out⟩
    · have hie : i = xs.length := by omega
      have HN := Lib.hid (show stpE xs = 0 by rw [he, hie, List.drop_length]; rfl)
      clear hK he hie hz
      go_wp2_with fail
      go_ret
      exact ⟨by rw [HN.out]; rfl, K.out⟩
set_option maxRecDepth 100000 in
theorem steps_any (A : Option Addr) (c : Nat) (xs : List Stp) (w : World) (ha : Sts w A c xs) (hn : xs.length ≤ 1000)
    (hd : ∀ (i : Nat) s, xs[i]? = some s → (∀ t ∈ xs.take i, t.e = 0) → s.does w) :
    Calls Tryz.prog 16 #[.slice A xs.length c] w fun r w' => r = .returned (.int .i64 (stpE xs)) ∧ Below w.heap.size w w' := by
  have H1 := Lib.hid (eachF_any A c xs w ha hn hd)
  clear ha hn hd
  go_enter Tryz.func16, Tryz.ntmps16
  go_wp2_with fail
  refine H1.out.mono ?_
  rintro e w1 ⟨rfl, hb⟩
  have K := Lib.hid hb
  clear hb H1
  go_wp2_with fail
  go_ret
  exact ⟨rfl, K.out⟩
end Go.Proofs.YtibogpidnnodnaaGreatDoor

/- Layer 15 in plain words: the units whose bytes a row is. No program. -/
namespace Go.Proofs.YtibogpidnnodnaaGreatDoor
open Go.RowKit

def Ut.cont (l : List UInt8) (i : Nat) : Bool := match l[i]? with | some c => decide (c.toNat / 64 = 2) | none => false
def Ut.fx (l : List UInt8) (i : Nat) : Nat := match l[i]? with | some c => if c.toNat / 64 = 2 then c.toNat % 64 else 0 | none => 0
theorem Ut.fx_lt (l : List UInt8) (i : Nat) : Ut.fx l i < 64 := by
  unfold Ut.fx
  split
  · split <;> omega
  · omega
def Ut.u2 (l : List UInt8) : Nat := (l.headD 0).toNat % 32 * 64 + Ut.fx l 1
def Ut.u3 (l : List UInt8) : Nat := (l.headD 0).toNat % 16 * 4096 + Ut.fx l 1 * 64 + Ut.fx l 2
/-- A unit ahead, and how many bytes it has; none: they aren't right. -/
def Ut.next (l : List UInt8) : Nat × Nat :=
  let c := (l.headD 0).toNat
  if c ≠ 0 ∧ c < 128 then (c, 1)
  else if c / 32 = 6 then (if Ut.cont l 1 = true ∧ (Ut.u2 l = 0 ∨ 128 ≤ Ut.u2 l) then (Ut.u2 l, 2) else (0, 0))
  else if c / 16 = 14 then (if Ut.cont l 1 = true ∧ Ut.cont l 2 = true ∧ 2048 ≤ Ut.u3 l then (Ut.u3 l, 3) else (0, 0))
  else (0, 0)
theorem Ut.cont_lt {l : List UInt8} {i : Nat} (h : Ut.cont l i = true) : i < l.length := by
  unfold Ut.cont at h
  cases hi : l[i]? with
  | none => rw [hi] at h; cases h
  | some c => exact (List.getElem?_eq_some_iff.1 hi).1
theorem Ut.next_le {l : List UInt8} (h : l ≠ []) : (Ut.next l).2 ≤ l.length := by
  have hl : 0 < l.length := List.length_pos_iff.2 h
  unfold Ut.next
  dsimp only
  split
  · exact hl
  · split
    · split
      · rename_i h1; exact Ut.cont_lt h1.1
      · simp
    · split
      · split
        · rename_i h1; exact Ut.cont_lt h1.2.1
        · simp
      · simp
theorem Ut.next_u16 (l : List UInt8) : (Ut.next l).1 < 65536 := by
  have h1 := Ut.fx_lt l 1
  have h2 := Ut.fx_lt l 2
  have h0 := (l.headD 0).toNat_lt
  unfold Ut.next Ut.u2 Ut.u3
  dsimp only
  repeat' split
  all_goals (dsimp only; omega)
def Ut.unitsF : Nat → List UInt8 → Option (List Nat)
  | _, [] => some []
  | 0, _ :: _ => none
  | f + 1, c :: r => if (Ut.next (c :: r)).2 = 0 then none else (Ut.unitsF f ((c :: r).drop (Ut.next (c :: r)).2)).map ((Ut.next (c :: r)).1 :: ·)
/-- The units whose bytes a row is. -/
def Ut.units (l : List UInt8) : Option (List Nat) := Ut.unitsF l.length l
theorem Ut.unitsF_enough : ∀ (f g : Nat) (l : List UInt8), l.length ≤ f → l.length ≤ g → Ut.unitsF f l = Ut.unitsF g l
  | f, g, [], _, _ => by cases f <;> cases g <;> rfl
  | 0, _, c :: r, h, _ => by simp at h
  | f + 1, 0, c :: r, _, h => by simp at h
  | f + 1, g + 1, c :: r, h1, h2 => by
    unfold Ut.unitsF
    by_cases h0 : (Ut.next (c :: r)).2 = 0
    · rw [if_pos h0, if_pos h0]
    · rw [if_neg h0, if_neg h0, Ut.unitsF_enough f g _ (by simp at h1 ⊢; omega) (by simp at h2 ⊢; omega)]
theorem Ut.units_nil : Ut.units [] = some [] := rfl
theorem Ut.units_stop {l : List UInt8} (h : l ≠ []) (h0 : (Ut.next l).2 = 0) : Ut.units l = none := by
  cases l with
  | nil => exact absurd rfl h
  | cons c r => unfold Ut.units Ut.unitsF; simp only [List.length_cons]; rw [if_pos h0]
theorem Ut.units_step {l : List UInt8} (h : l ≠ []) (h0 : (Ut.next l).2 ≠ 0) : Ut.units l = (Ut.units (l.drop (Ut.next l).2)).map ((Ut.next l).1 :: ·) := by
  cases l with
  | nil => exact absurd rfl h
  | cons c r =>
    unfold Ut.units
    rw [Ut.unitsF_enough ((c :: r).drop (Ut.next (c :: r)).2).length r.length ((c :: r).drop (Ut.next (c :: r)).2) (Nat.le_refl _) (by simp; omega)]
    have e : Ut.unitsF (c :: r).length (c :: r) = if (Ut.next (c :: r)).2 = 0 then none else (Ut.unitsF r.length ((c :: r).drop (Ut.next (c :: r)).2)).map ((Ut.next (c :: r)).1 :: ·) := rfl
    rw [e, if_neg h0]
/-- Is a row right? -/
def Ut.right (l : List UInt8) : Bool := (Ut.units l).isSome
end Go.Proofs.YtibogpidnnodnaaGreatDoor

/- Layer 17 in plain words: names and descriptors. No program. -/
namespace Go.Proofs.YtibogpidnnodnaaGreatDoor
open Go.RowKit

def De.has (chars l : List UInt8) : Bool := l.any fun b => chars.contains b
theorem De.has_cons (chars : List UInt8) (b : UInt8) (l : List UInt8) : De.has chars (b :: l) = (chars.contains b || De.has chars l) := List.any_cons
def De.member (l : List UInt8) : Bool := !l.isEmpty && !De.has [46, 59, 91, 47] l && Ut.right l
def De.method (l : List UInt8) : Bool := decide (l = [60, 105, 110, 105, 116, 62]) || decide (l = [60, 99, 108, 105, 110, 105, 116, 62]) || (De.member l && !De.has [60, 62] l)
/-- No part between strokes is empty; 'b': does a part begin here? -/
def De.fine : Bool → List UInt8 → Bool
  | b, [] => !b
  | b, c :: r => if c = 47 then !b && De.fine true r else De.fine false r
def De.cls (l : List UInt8) : Bool := De.fine true l && !De.has [46, 59, 91] l && Ut.right l
def De.dims (l : List UInt8) : Nat := (l.takeWhile (fun c => c == 91)).length
def De.prim (c : UInt8) : Bool := [66, 67, 68, 70, 73, 74, 83, 90].contains c
/-- A descriptor without its dimensions. -/
def De.base : List UInt8 → Bool
  | [] => false
  | [c] => De.prim c
  | c :: d :: r => decide (c = 76) && decide ((d :: r).getLast? = some 59) && De.cls (d :: r).dropLast
def De.field (l : List UInt8) : Bool := decide (De.dims l ≤ 255) && De.base (l.drop (De.dims l))
def De.named (l : List UInt8) : Bool := De.cls l || (decide (l.head? = some 91) && De.field l)
def De.room (l : List UInt8) : Nat := if De.field l = true then (if l = [74] ∨ l = [68] then 2 else 1) else 0

/-! ### parts between strokes -/
def De.segs (c : UInt8) : List UInt8 → List (List UInt8)
  | [] => [[]]
  | b :: l => if b = c then [] :: De.segs c l else match De.segs c l with | [] => [[b]] | p :: ps => (b :: p) :: ps
theorem De.segs_ne (c : UInt8) (l : List UInt8) : De.segs c l ≠ [] := by
  cases l with
  | nil => simp [De.segs]
  | cons b l =>
    unfold De.segs
    split
    · simp
    · split <;> simp
theorem De.splitK_segs (c : UInt8) : ∀ l : List UInt8, Lib.splitK [c] 0 (l.count c) l = De.segs c l
  | [] => by simp [De.segs, Lib.splitK]
  | b :: l => by
    have ih := De.splitK_segs c l
    have hi : Lib.index (b :: l) [c] = if b == c then 0 else if Lib.indexByte l c == -1 then -1 else Lib.indexByte l c + 1 := by rw [Lib.index_one]; rfl
    by_cases hb : b = c
    · subst hb
      have hi0 : Lib.index (b :: l) [b] = 0 := by rw [hi]; simp
      rw [List.count_cons_self]
      unfold Lib.splitK De.segs
      rw [if_neg (by rw [hi0]; decide), hi0, if_pos rfl, ← ih]
      simp
    · have hbc : (b == c) = false := by simp [hb]
      rw [hbc] at hi
      have hcnt : (b :: l).count c = l.count c := List.count_cons_of_ne hb
      rw [hcnt]
      unfold De.segs
      rw [if_neg hb, ← ih]
      cases hk : l.count c with
      | zero => simp [Lib.splitK]
      | succ k =>
        have hidx := Lib.index_one l c
        have hmem : l.contains c = true := by
          rw [List.contains_iff_mem, ← List.count_pos_iff]; omega
        have h0 := Lib.contains_iff_indexByte l c
        rw [hmem] at h0
        have h0' : 0 ≤ Lib.indexByte l c := of_decide_eq_true h0.symm
        have hne : ¬ (Lib.indexByte l c == -1) = true := by simp; omega
        have hi1 : Lib.index (b :: l) [c] = Lib.indexByte l c + 1 := by rw [hi, if_neg (by simp), if_neg hne]
        unfold Lib.splitK
        rw [hi1, hidx, if_neg (by simp; omega), if_neg hne]
        obtain ⟨j, hj⟩ : ∃ j : Nat, Lib.indexByte l c = j := ⟨(Lib.indexByte l c).toNat, by omega⟩
        rw [hj]
        have e1 : ((j : Int) + 1).toNat = j + 1 := by omega
        rw [e1]
        simp
theorem De.segs_fine : ∀ (l : List UInt8), De.fine true l = !((De.segs 47 l).any fun p => p.isEmpty) ∧ De.fine false l = !(((De.segs 47 l).drop 1).any fun p => p.isEmpty)
  | [] => by simp [De.segs, De.fine]
  | b :: l => by
    obtain ⟨h1, h2⟩ := De.segs_fine l
    by_cases hb : b = 47
    · subst hb
      simp only [De.segs, De.fine, if_true]
      simp [h1]
    · simp only [De.segs, De.fine, if_neg hb]
      cases hs : De.segs 47 l with
      | nil => exact absurd hs (De.segs_ne _ _)
      | cons p ps =>
        rw [hs] at h2
        simp only [List.drop_succ_cons, List.drop_zero] at h2
        simp [h2]
theorem De.segs_has (chars : List UInt8) (h47 : chars.contains 47 = false) : ∀ l : List UInt8, ((De.segs 47 l).any fun p => De.has chars p) = De.has chars l
  | [] => by simp [De.segs, De.has]
  | b :: l => by
    have ih := De.segs_has chars h47 l
    by_cases hb : b = 47
    · subst hb
      rw [De.has_cons, h47, Bool.false_or, ← ih]
      simp [De.segs, De.has]
    · simp only [De.segs, if_neg hb]
      cases hs : De.segs 47 l with
      | nil => exact absurd hs (De.segs_ne _ _)
      | cons p ps =>
        rw [hs] at ih
        simp only [List.any_cons] at ih ⊢
        rw [De.has_cons, De.has_cons, ← ih, Bool.or_assoc]
theorem any_or {α : Type} (p q : α → Bool) : ∀ l : List α, (l.any fun x => p x || q x) = (l.any p || l.any q)
  | [] => rfl
  | a :: l => by
    rw [List.any_cons, List.any_cons, List.any_cons, any_or p q l]
    cases p a <;> cases q a <;> cases l.any p <;> cases l.any q <;> rfl
/-- What the program asks of the parts. -/
theorem De.cls_eq (l : List UInt8) : De.cls l = (!((De.segs 47 l).any fun p => p.isEmpty || De.has [46, 59, 91] p) && Ut.right l) := by
  unfold De.cls
  rw [any_or, De.segs_has _ (by decide), (De.segs_fine l).1]
  cases (De.segs 47 l).any fun p => p.isEmpty <;> cases De.has [46, 59, 91] l <;> cases Ut.right l <;> rfl

/-! ### dimensions -/
theorem De.dims_le : ∀ l : List UInt8, De.dims l ≤ l.length
  | [] => by simp [De.dims]
  | c :: l => by
    have := De.dims_le l
    by_cases h : c = 91
    · subst h; simp [De.dims] at this ⊢; exact this
    · simp [De.dims, h]
theorem De.dims_cons (l : List UInt8) : De.dims (91 :: l) = De.dims l + 1 := by simp [De.dims]
theorem De.dims_other {c : UInt8} (h : c ≠ 91) (l : List UInt8) : De.dims (c :: l) = 0 := by simp [De.dims, h]
theorem De.drop_dims_ne : ∀ l : List UInt8, (l.drop (De.dims l)).head? ≠ some 91
  | [] => by simp [De.dims]
  | c :: l => by
    by_cases h : c = 91
    · subst h; rw [De.dims_cons, List.drop_succ_cons]; exact De.drop_dims_ne l
    · rw [De.dims_other h]; simpa using h
theorem De.take_dims : ∀ l : List UInt8, l.take (De.dims l) = List.replicate (De.dims l) 91
  | [] => by simp [De.dims]
  | c :: l => by
    by_cases h : c = 91
    · subst h; rw [De.dims_cons, List.take_succ_cons, De.take_dims l, List.replicate_succ]
    · rw [De.dims_other h]; simp
theorem De.dims_app (n : Nat) (r : List UInt8) (h : r.head? ≠ some 91) : De.dims (List.replicate n 91 ++ r) = n := by
  induction n with
  | zero =>
    cases r with
    | nil => rfl
    | cons c r => simp only [List.replicate_zero, List.nil_append]; exact De.dims_other (by simpa using h) r
  | succ n ih => rw [List.replicate_succ, List.cons_append, De.dims_cons, ih]
theorem De.parts (l : List UInt8) : l = List.replicate (De.dims l) 91 ++ l.drop (De.dims l) := by
  rw [← De.take_dims]; exact (List.take_append_drop _ _).symm
theorem De.field_app (n : Nat) (r : List UInt8) (h : r.head? ≠ some 91) : De.field (List.replicate n 91 ++ r) = (decide (n ≤ 255) && De.base r) := by
  unfold De.field
  rw [De.dims_app n r h]
  congr 2
  rw [List.drop_append_of_le_length (by simp), List.drop_eq_nil_of_le (by simp)]
  rfl
end Go.Proofs.YtibogpidnnodnaaGreatDoor

/- Plain laws on masks of int and of uint16; no program. -/
namespace Go.Proofs.YtibogpidnnodnaaGreatDoor
open Go.RowKit

theorem i64_mask (k : Nat) (hk : k ≤ 62) (n : Int) : bits .and .i64 n ((2 ^ k - 1 : Nat) : Int) = n % ((2 ^ k : Nat) : Int) := by
  have hp : 0 < 2 ^ k := Nat.two_pow_pos k
  have hb : (2 ^ k : Nat) ≤ 2 ^ 62 := Nat.pow_le_pow_right (by decide) hk
  have h1 : (BitVec.ofInt 64 ((2 ^ k - 1 : Nat) : Int)).toNat = 2 ^ k - 1 := by
    rw [BitVec.ofInt_natCast, BitVec.toNat_ofNat]; apply Nat.mod_eq_of_lt; have : (2:Nat) ^ 62 < 2 ^ 64 := by decide
    omega
  have key : (BitVec.ofInt 64 n &&& BitVec.ofInt 64 ((2 ^ k - 1 : Nat) : Int)).toNat = (n % ((2 ^ 64 : Nat) : Int)).toNat % 2 ^ k := by
    rw [BitVec.toNat_and, BitVec.toNat_ofInt, h1, Nat.and_two_pow_sub_one_eq_mod]
  show IntKind.i64.wrap ((BitVec.ofInt 64 n &&& BitVec.ofInt 64 ((2 ^ k - 1 : Nat) : Int)).toNat : Nat) = _
  rw [key, IntKind.wrap_i64]
  have hd : (2 ^ k : Nat) ∣ 2 ^ 64 := Nat.pow_dvd_pow 2 (by omega)
  have hnn : 0 ≤ n % ((2 ^ 64 : Nat) : Int) := Int.emod_nonneg _ (by decide)
  have e1 : (((n % ((2 ^ 64 : Nat) : Int)).toNat % 2 ^ k : Nat) : Int) = n % ((2 ^ k : Nat) : Int) := by
    rw [Int.natCast_emod, Int.toNat_of_nonneg hnn]
    exact Int.emod_emod_of_dvd n (by exact_mod_cast hd)
  rw [e1]
  have l1 : 0 ≤ n % ((2 ^ k : Nat) : Int) := Int.emod_nonneg _ (by omega)
  have l2 : n % ((2 ^ k : Nat) : Int) < ((2 ^ k : Nat) : Int) := Int.emod_lt_of_pos _ (by omega)
  have l3 : ((2 ^ k : Nat) : Int) ≤ 4611686018427387904 := by
    have : ((2 ^ k : Nat) : Int) ≤ ((2 ^ 62 : Nat) : Int) := by exact_mod_cast hb
    simpa using this
  generalize n % ((2 ^ k : Nat) : Int) = r at *
  generalize ((2 ^ k : Nat) : Int) = q at *
  omega
theorem i64_and1 (n : Int) : bits .and .i64 n 1 = n % 2 := i64_mask 1 (by decide) n
theorem i64_and3 (n : Int) : bits .and .i64 n 3 = n % 4 := i64_mask 2 (by decide) n
theorem i64_and7 (n : Int) : bits .and .i64 n 7 = n % 8 := i64_mask 3 (by decide) n
theorem i64_and255 (n : Int) : bits .and .i64 n 255 = n % 256 := i64_mask 8 (by decide) n

theorem wraps_u16 (n : Int) (h₀ : 0 ≤ n) (h₁ : n < 2 ^ 16) : IntKind.u16.wrap n = n := by rw [IntKind.wrap_u16]; omega
theorem u16_and15 (x : Int) (h₀ : 0 ≤ x) (h₁ : x < 65536) : bits .and .u16 x 15 = x % 16 := bits_mask .u16 16 (by decide) wraps_u16 4 (by decide) x h₀ h₁
theorem u16_and31 (x : Int) (h₀ : 0 ≤ x) (h₁ : x < 65536) : bits .and .u16 x 31 = x % 32 := bits_mask .u16 16 (by decide) wraps_u16 5 (by decide) x h₀ h₁
theorem u16_and63 (x : Int) (h₀ : 0 ≤ x) (h₁ : x < 65536) : bits .and .u16 x 63 = x % 64 := bits_mask .u16 16 (by decide) wraps_u16 6 (by decide) x h₀ h₁
theorem wraps_i64 (n : Int) (h₀ : 0 ≤ n) (h₁ : n < 2 ^ 62) : IntKind.i64.wrap n = n := by rw [IntKind.wrap_i64]; omega
/-- 'x | y' where x is a multiple of 2^i and y below it. -/
theorem i64_or (i : Nat) (x y : Int) (hx₀ : 0 ≤ x) (hx : x % 2 ^ i = 0) (hx₁ : x < 2 ^ 62) (hy₀ : 0 ≤ y) (hy : y < 2 ^ i) (hy₁ : y < 2 ^ 62) : bits .or .i64 x y = x + y :=
  bits_join .i64 62 (by decide) wraps_i64 i x y hx₀ hx hx₁ hy₀ hy hy₁
end Go.Proofs.YtibogpidnnodnaaGreatDoor
