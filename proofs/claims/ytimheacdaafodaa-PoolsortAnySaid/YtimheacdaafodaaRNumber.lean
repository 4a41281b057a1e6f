/- The walks of layer 19: a value's number in an order, by the document; are constants the same. -/
import Derived.Test.YtimheacdaafodaaWalksD
import Derived.Test.YtimheacdaafodaaRaws
namespace Go.Proofs.Ytimheacdaafodaa
open Go.RowKit

def Pv.refFrom : Nat → List Pv → Pv → Nat
  | _, [], _ => 0
  | n, x :: xs, v => if 0 < n ∧ x = v then n else Pv.refFrom (n + 1) xs v
def Pv.refNum (L : List Pv) (v : Pv) : Nat := Pv.refFrom 0 L v
theorem Pv.refFrom_fst (v : Pv) : ∀ (l : List Pv) (n : Nat), 0 < n → Pv.refFrom n l v = Pv.fst n l v
  | [], _, _ => rfl
  | x :: l, n, h => by
    unfold Pv.refFrom Pv.fst
    rw [Pv.refFrom_fst v l (n + 1) (by omega)]
    simp [h]
theorem Pv.refNum_slots (l : List Pv) (v : Pv) : Pv.refNum (Pv.slots l) v = Pv.num l v := by
  unfold Pv.refNum Pv.slots Pv.num
  show (if 0 < 0 ∧ _ then 0 else Pv.refFrom 1 (l.flatMap Pv.slot) v) = _
  rw [if_neg (by simp), Pv.refFrom_fst v _ 1 (by omega), Pv.fst_slots]
theorem Pv.refFrom_drop {l : List Pv} {i : Nat} {x : Pv} (h : l[i]? = some x) (v : Pv) : Pv.refFrom i (l.drop i) v = if 0 < i ∧ x = v then i else Pv.refFrom (i + 1) (l.drop (i + 1)) v := by
  obtain ⟨h3, rfl⟩ := List.getElem?_eq_some_iff.1 h
  rw [List.drop_eq_getElem_cons h3]
  rfl
set_option maxHeartbeats 4000000 in
theorem rnumber_any (A : Option Addr) (c : Nat) (l : List Pv) (v : Pv) (w : World) (hx : Vals w A c l) (hn : l.length ≤ 140737488355328) :
    Calls Try.prog 12 #[.slice A l.length c, vv v] w fun e w' => e = .returned (.int .i64 (Pv.refNum l v : Nat)) ∧ Below w.heap.size w w' := by
  have HX := Lib.hid hx
  have HE := Lib.hid (fun a x => eq_val a v x)
  have k0 := Lib.hid ((Below.refl w.heap.size w).alloc (Nat.le_refl _) (.cells #[.int .i64 v.tag, .string (bs v.text), .int .u64 v.bits, .string (bs v.cls), .string (bs v.name), .string (bs v.desc)] 25))
  have q0 := Lib.hid (vbox_new w v)
  clear hx
  unfold vv at HE ⊢
  go_enter Try.func12, Try.ntmps12
  go_wp2_with fail
  generalize w.alloc (.cells #[.int .i64 v.tag, .string (bs v.text), .int .u64 v.bits, .string (bs v.cls), .string (bs v.name), .string (bs v.desc)] 25) = W at k0 q0 ⊢
  go_loopw [9] (fun u wr => ∃ i : Nat, i ≤ l.length ∧ u = .int .i64 i ∧ Pv.refFrom i (l.drop i) v = Pv.refNum l v ∧ Below W.heap.size W wr) (fun u _ => l.length - (intOf u).toNat)
  case atStart => exact ⟨0, Nat.zero_le _, rfl, rfl, Below.refl _ _⟩
  case round =>
    obtain ⟨i, hil, rfl, hall, hB⟩ := hrel
    have HB := Lib.hid (k0.out.trans (hB.mono k0.out.size))
    have HB' := Lib.hid hB
    have hq := q0.out.keep hB q0.out.lt
    by_cases hi : i < l.length
    · obtain ⟨g, o, x, rfl, hg, hv, c0, c1, c2, c3, c4, c5⟩ := (HX.out.grow HB.out).at_ hi
      have p1 : decide ((i : Int) < (l.length : Int)) = true := decide_eq_true (by omega)
      have p2 : decide (i < l.length) = true := decide_eq_true hi
      have HA := Lib.hid ((Pv.refFrom_drop hv v).symm.trans hall)
      have hqs := hq.lt
      have k1 := (Below.refl wr.heap.size wr).alloc (Nat.le_refl _) (.cells #[.int .i64 x.tag, .string (bs x.text), .int .u64 x.bits, .string (bs x.cls), .string (bs x.name), .string (bs x.desc)] 25)
      obtain ⟨d0, d1, d2, d3, d4, d5⟩ := hq.at_
      have HC := Lib.hid (HB.out.trans (k1.mono HB.out.size))
      have HC' := Lib.hid (HB'.out.trans (k1.mono HB'.out.size))
      clear hall hB hv hq k1
      by_cases h0 : i = 0
      · subst h0
        have HA2 := Lib.hid ((show Pv.refFrom (0 + 1) (l.drop (0 + 1)) v = _ from rfl).trans ((if_neg (by simp)).symm.trans HA.out))
        simp only [Nat.zero_mul, Nat.add_zero] at c0 c1 c2 c3 c4 c5
        go_wp2
        go_roundw
        case rel => exact ⟨1, by omega, by go_num, HA2.out, HC'.out⟩
        case measure => simp [intOf]; omega
      · have p3 : decide ((0 : Int) < (i : Int)) = true := decide_eq_true (by omega)
        have p3' : decide (0 < i) = true := decide_eq_true (by omega)
        have hi0 : 0 < i := by omega
        by_cases e : x = v
        · have he := fun y => (HE.out x y).trans (by rw [decide_eq_true e])
          have HS := Lib.hid (show Pv.refNum l v = i by rw [← HA.out, if_pos ⟨hi0, e⟩])
          clear e h0
          go_wp2
          go_ret
          exact ⟨by rw [HS.out]; rfl, HC.out⟩
        · have he := fun y => (HE.out x y).trans (by rw [decide_eq_false e])
          have HS := Lib.hid (show Pv.refFrom (i + 1) (l.drop (i + 1)) v = Pv.refNum l v by rw [← HA.out, if_neg (fun h => e h.2)])
          clear e h0
          go_wp2
          go_roundw
          case rel => exact ⟨i + 1, by omega, by go_num, HS.out, HC'.out⟩
          case measure => simp [intOf]; omega
    · obtain rfl : i = l.length := by omega
      have p1 : decide ((l.length : Int) < (l.length : Int)) = false := decide_eq_false (by omega)
      have p2 : decide (l.length < l.length) = false := decide_eq_false (by omega)
      rw [List.drop_length] at hall
      have HA := Lib.hid (show Pv.refNum l v = 0 from hall.symm)
      clear hall hB hq
      go_wp2
      go_ret
      exact ⟨by rw [HA.out]; rfl, HB.out⟩

theorem take_same_snoc {a b : List Rw} {i : Nat} {x y : Rw} (h1 : a[i]? = some x) (h2 : b[i]? = some y) (h : a.take i = b.take i) (e : x = y) : a.take (i + 1) = b.take (i + 1) := by
  obtain ⟨g1, r1⟩ := List.getElem?_eq_some_iff.1 h1
  obtain ⟨g2, r2⟩ := List.getElem?_eq_some_iff.1 h2
  rw [List.take_succ_eq_append_getElem g1, List.take_succ_eq_append_getElem g2, h, r1, r2, e]
set_option maxHeartbeats 4000000 in
theorem same_any (A B : Option Addr) (c d : Nat) (a b : List Rw) (w : World) (hx : Raws w A c a) (hy : Raws w B d b) (hn : a.length ≤ 140737488355328) (hm : b.length ≤ 140737488355328) :
    Calls Try.prog 13 #[.slice A a.length c, .slice B b.length d] w fun e w' => e = .returned (.bool (decide (a = b))) ∧ Below w.heap.size w w' := by
  have HX := Lib.hid hx
  have HY := Lib.hid hy
  have HE := Lib.hid (fun a b x => eq_raw a b x)
  clear hx hy
  unfold rr at HE
  by_cases hl : a.length = b.length
  · rw [← hl]
    have HL := Lib.hid hl
    have p0 : ((a.length : Int) != (a.length : Int)) = false := by simp
    clear hl
    go_enter Try.func13, Try.ntmps13
    go_wp2_with fail
    go_loopw [13] (fun u wr => ∃ i : Nat, i ≤ a.length ∧ u = .int .i64 i ∧ a.take i = b.take i ∧ Below w.heap.size w wr) (fun u _ => a.length - (intOf u).toNat)
    case atStart => exact ⟨0, Nat.zero_le _, rfl, rfl, Below.refl _ _⟩
    case round =>
      obtain ⟨i, hil, rfl, hall, hB⟩ := hrel
      have HB := Lib.hid hB
      have HA := Lib.hid hall
      clear hall
      by_cases hi : i < a.length
      · obtain ⟨g, o, x, rfl, hg, hv, c0, c1, c2, c3, c4⟩ := (HX.out.grow HB.out).at_ hi
        obtain ⟨g2, o2, y, rfl, hg2, hv2, d0, d1, d2, d3, d4⟩ := (HY.out.grow HB.out).at_ (i := i) (by rw [← HL.out]; exact hi)
        have p1 : decide ((i : Int) < (a.length : Int)) = true := decide_eq_true (by omega)
        have p2 : decide (i < a.length) = true := decide_eq_true hi
        have HV := Lib.hid hv
        have HV2 := Lib.hid hv2
        clear hB hv hv2
        by_cases e : x = y
        · have he := fun z => (HE.out x y z).trans (by rw [decide_eq_true e])
          have HS := Lib.hid (take_same_snoc HV.out HV2.out HA.out e)
          clear e
          go_wp2_with fail
          refine wp_region_grow (by kernel_rfl) (by kernel_rfl) ?_
          repeat (go_big_quiet_step (fail))
          refine wpQuiet_nil ?_
          intro g1
          obtain ⟨w1, hb1⟩ := g1
          have HC := Lib.hid (HB.out.trans (hb1.mono HB.out.size))
          dsimp only
          clear hb1
          go_wp2
          go_roundw
          case rel => exact ⟨i + 1, by omega, by go_num, HS.out, HC.out⟩
          case measure => simp [intOf]; omega
        · have he := fun z => (HE.out x y z).trans (by rw [decide_eq_false e])
          have HS := Lib.hid (show decide (a = b) = false from decide_eq_false fun h => by
            have h1 := HV.out
            rw [h, HV2.out] at h1
            exact e (Option.some.inj h1).symm)
          clear e
          go_wp2_with fail
          refine wp_region_grow (by kernel_rfl) (by kernel_rfl) ?_
          repeat (go_big_quiet_step (fail))
          refine wpQuiet_nil ?_
          intro g1
          obtain ⟨w1, hb1⟩ := g1
          have HC := Lib.hid (HB.out.trans (hb1.mono HB.out.size))
          dsimp only
          clear hb1
          go_wp2
          go_ret
          exact ⟨by rw [HS.out]; rfl, HC.out⟩
      · obtain rfl : i = a.length := by omega
        have p1 : decide ((a.length : Int) < (a.length : Int)) = false := decide_eq_false (by omega)
        have p2 : decide (a.length < a.length) = false := decide_eq_false (by omega)
        have HS := Lib.hid (show decide (a = b) = true from decide_eq_true (by
          have := HA.out
          rw [List.take_length, HL.out, List.take_length] at this
          exact this))
        clear hB
        go_wp2
        go_ret
        exact ⟨by rw [HS.out]; rfl, HB.out⟩
  · have p0 : ((a.length : Int) != (b.length : Int)) = true := by simp; omega
    have p0' : (a.length != b.length) = true := by simpa using hl
    have HS := Lib.hid (show decide (a = b) = false from decide_eq_false fun h => hl (by rw [h]))
    clear hl
    go_enter Try.func13, Try.ntmps13
    go_wp2
    go_ret
    exact ⟨by rw [HS.out]; rfl, Below.refl _ _⟩
end Go.Proofs.Ytimheacdaafodaa
