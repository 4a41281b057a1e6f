/- The walk of layer 16's document: a constant is right. -/
import Derived.Test.YtimheacdaafodaaWalksE
import Derived.Test.YtimheacdaafodaaPool
namespace Go.Proofs.Ytimheacdaafodaa
open Go.RowKit

set_option maxRecDepth 100000 in
theorem right_plain (A : Option Addr) (n c : Nat) (t : Int) (text : List UInt8) (bits a b : Nat) (w : World) (ht : t = 1 ∨ t = 3 ∨ t = 4 ∨ t = 5 ∨ t = 6) :
    Calls Try.prog 33 #[.slice A n c, .agg #[.int .i64 t, .string (bs text), .int .u64 bits, .int .i64 a, .int .i64 b]] w fun e w' => e = .returned (.bool true) ∧ Below w.heap.size w w' := by
  have k0 := Lib.hid ((Below.refl w.heap.size w).alloc (Nat.le_refl _) (.cells #[.int .i64 t, .string (bs text), .int .u64 bits, .int .i64 a, .int .i64 b] 49))
  rcases ht with rfl | rfl | rfl | rfl | rfl <;>
  · go_enter Try.func33, Try.ntmps33
    go_wp2_with fail
    refine (form_any _ _).mono ?_
    rintro e w1 ⟨rfl, rfl⟩
    simp only [show Pv.form 1 = 116 from by decide, show Pv.form 3 = 52 from by decide, show Pv.form 4 = 52 from by decide, show Pv.form 5 = 56 from by decide, show Pv.form 6 = 56 from by decide]
    go_wp2_with fail
    go_ret
    exact ⟨rfl, k0.out⟩
set_option maxRecDepth 100000 in
theorem right_78 (A : Option Addr) (c : Nat) (L : List Rw) (t : Int) (text : List UInt8) (bits a b : Nat) (x : Rw) (w : World) (hx : Raws w A c L) (hL : L.length ≤ 1000000) (ht : t = 7 ∨ t = 8) (h : At L a x) (h1 : x.tag = 1) :
    Calls Try.prog 33 #[.slice A L.length c, .agg #[.int .i64 t, .string (bs text), .int .u64 bits, .int .i64 a, .int .i64 b]] w fun e w' => e = .returned (.bool true) ∧ Below w.heap.size w w' := by
  have k0 := Lib.hid ((Below.refl w.heap.size w).alloc (Nat.le_refl _) (.cells #[.int .i64 t, .string (bs text), .int .u64 bits, .int .i64 a, .int .i64 b] 49))
  have HT := Lib.hid (tagged_at A c L a x 1 _ (hx.grow k0.out) hL h h1 (by decide))
  clear hx h h1
  rcases ht with rfl | rfl <;>
  · go_enter Try.func33, Try.ntmps33
    go_wp2_with fail
    refine HT.out.mono ?_
    rintro e w1 ⟨rfl, rfl⟩
    go_wp2_with fail
    go_ret
    exact ⟨rfl, k0.out⟩
set_option maxRecDepth 100000 in
theorem right_12 (A : Option Addr) (c : Nat) (L : List Rw) (text : List UInt8) (bits a b : Nat) (x y : Rw) (w : World) (hx : Raws w A c L) (hL : L.length ≤ 1000000) (h : At L a x) (h1 : x.tag = 1) (h' : At L b y) (h1' : y.tag = 1) :
    Calls Try.prog 33 #[.slice A L.length c, .agg #[.int .i64 12, .string (bs text), .int .u64 bits, .int .i64 a, .int .i64 b]] w fun e w' => e = .returned (.bool true) ∧ Below w.heap.size w w' := by
  have k0 := Lib.hid ((Below.refl w.heap.size w).alloc (Nat.le_refl _) (.cells #[.int .i64 12, .string (bs text), .int .u64 bits, .int .i64 a, .int .i64 b] 49))
  have HT := Lib.hid (tagged_at A c L a x 1 _ (hx.grow k0.out) hL h h1 (by decide))
  have HT' := Lib.hid (tagged_at A c L b y 1 _ (hx.grow k0.out) hL h' h1' (by decide))
  clear hx h h1 h' h1'
  go_enter Try.func33, Try.ntmps33
  go_wp2_with fail
  refine HT.out.mono ?_
  rintro e w1 ⟨rfl, rfl⟩
  go_wp2_with fail
  refine HT'.out.mono ?_
  rintro e w1 ⟨rfl, rfl⟩
  go_wp2_with fail
  go_ret
  exact ⟨rfl, k0.out⟩
set_option maxRecDepth 100000 in
set_option maxHeartbeats 4000000 in
theorem right_911 (A : Option Addr) (c : Nat) (L : List Rw) (t : Int) (text : List UInt8) (bits a b : Nat) (x y x1 y1 y2 : Rw) (w : World) (hx : Raws w A c L) (hL : L.length ≤ 1000000) (ht : t = 9 ∨ t = 10 ∨ t = 11) (h : At L a x) (h7 : x.tag = 7) (h' : At L b y) (h12 : y.tag = 12)
    (hx1 : At L x.a x1) (tx1 : x1.tag = 1) (hy1 : At L y.a y1) (ty1 : y1.tag = 1) (hy2 : At L y.b y2) (ty2 : y2.tag = 1) :
    Calls Try.prog 33 #[.slice A L.length c, .agg #[.int .i64 t, .string (bs text), .int .u64 bits, .int .i64 a, .int .i64 b]] w fun e w' => e = .returned (.bool true) ∧ Below w.heap.size w w' := by
  have k0 := Lib.hid ((Below.refl w.heap.size w).alloc (Nat.le_refl _) (.cells #[.int .i64 t, .string (bs text), .int .u64 bits, .int .i64 a, .int .i64 b] 49))
  have B0 := Lib.hid (heap_alloc_new w (.cells #[.int .i64 t, .string (bs text), .int .u64 bits, .int .i64 a, .int .i64 b] 49))
  have HT := Lib.hid (tagged_at A c L a x 7 _ (hx.grow k0.out) hL h h7 (by decide))
  have HT' := Lib.hid (tagged_at A c L b y 12 _ (hx.grow k0.out) hL h' h12 (by decide))
  have HX := Lib.hid (hx.grow k0.out)
  have HR := Lib.hid (fun w hx => right_78 A c L 7 x.text x.bits x.a x.b x1 w hx hL (.inl rfl) hx1 tx1)
  have HR' := Lib.hid (fun w hx => right_12 A c L y.text y.bits y.a y.b y1 y2 w hx hL hy1 ty1 hy2 ty2)
  have la := h.lt
  have lb := h'.lt
  obtain ⟨g, o, rfl, hg, c0, c1, c2, c3, c4⟩ := h.cells HX.out
  obtain ⟨g', o', e, _, d0, d1, d2, d3, d4⟩ := h'.cells HX.out
  cases e
  rw [h7] at c0
  rw [h12] at d0
  have p1 : decide (a < L.length) = true := decide_eq_true la
  have p2 : decide (b < L.length) = true := decide_eq_true lb
  clear hx h h7 h' h12 hx1 tx1 hy1 ty1 hy2 ty2
  rcases ht with rfl | rfl | rfl <;>
  · go_enter Try.func33, Try.ntmps33
    go_wp2_with fail
    refine HT.out.mono ?_
    rintro e w1 ⟨rfl, rfl⟩
    go_wp2_with fail
    refine HT'.out.mono ?_
    rintro e w1 ⟨rfl, rfl⟩
    go_wp2_with fail
    refine (HR.out _ HX.out).mono ?_
    rintro e w1 ⟨rfl, hb1⟩
    have K1 := Lib.hid (k0.out.trans (hb1.mono k0.out.size))
    obtain ⟨e0, e1, e2, e3, e4⟩ : RAt w1 g (o + b * 5) _ := RAt.keep (v := ⟨12, y.text, y.bits, y.a, y.b⟩) ⟨d0, d1, d2, d3, d4⟩ hb1 hg
    have X1 := Lib.hid (HX.out.grow hb1)
    have hbx := (hb1.block w.heap.size (by simp)).trans B0.out
    have b4 := (blk_facts hbx).1 4
    have hz := (Array.getElem?_eq_some_iff.1 hbx).1
    have hg1 := Nat.lt_of_lt_of_le hg hb1.size
    clear hbx hb1 c0 c1 c2 c3 c4 d0 d1 d2 d3 d4 hg HR HT HT' HX B0
    go_wp2_with fail
    refine (HR'.out _ X1.out).mono ?_
    rintro e w2 ⟨rfl, hb2⟩
    have K2 := Lib.hid (K1.out.trans (hb2.mono K1.out.size))
    clear hb2
    go_wp2_with fail
    go_ret
    exact ⟨rfl, K2.out⟩
/-- Of a value of the order. -/
theorem right_any (A : Option Addr) (c : Nat) (O : List Pv) (v : Pv) (w : World) (hx : Raws w A c (Pv.raws O)) (hL : (Pv.raws O).length ≤ 1000000) (hcl : ∀ v ∈ O, ∀ x ∈ v.needs, x ∈ O) (hok : ∀ v ∈ O, v.chk 0 9 5 = 0) (hv : v ∈ O) :
    Calls Try.prog 33 #[.slice A (Pv.raws O).length c, rr (v.rawOf (Pv.num O))] w fun e w' => e = .returned (.bool true) ∧ Below w.heap.size w w' := by
  have hc := hok v hv
  have tg := v.rawOf_tag (Pv.num O)
  have at1 := fun s (h : Pv.ofText s ∈ O) => raws_at h
  have tt1 := fun s => (Pv.ofText s).rawOf_tag (Pv.num O)
  unfold rr
  rw [tg]
  by_cases h1 : v.tag = 1 ∨ v.tag = 3 ∨ v.tag = 4 ∨ v.tag = 5 ∨ v.tag = 6
  · exact right_plain A _ c _ _ _ _ _ w h1
  by_cases h2 : v.tag = 7 ∨ v.tag = 8
  · have hn : v.needs = [Pv.ofText v.text] := by unfold Pv.needs; rw [if_pos h2]
    have hm := hcl v hv (Pv.ofText v.text) (by rw [hn]; simp)
    rw [Pv.rawOf_one hn]
    exact right_78 A c _ _ _ _ _ _ _ w hx hL h2 (at1 _ hm) (tt1 _)
  by_cases h3 : v.tag = 12
  · have hn : v.needs = [Pv.ofText v.name, Pv.ofText v.desc] := by unfold Pv.needs; rw [if_neg h2, if_pos h3]
    rw [Pv.rawOf_two hn, h3]
    exact right_12 A c _ _ _ _ _ _ _ w hx hL (at1 _ (hcl v hv _ (by rw [hn]; simp))) (tt1 _) (at1 _ (hcl v hv _ (by rw [hn]; simp))) (tt1 _)
  by_cases h4 : v.tag = 9 ∨ v.tag = 10 ∨ v.tag = 11
  · have hn : v.needs = [Pv.ofCls v.cls, Pv.ofPair v.name v.desc] := by unfold Pv.needs; rw [if_neg h2, if_neg h3, if_pos h4]
    have m1 := hcl v hv (Pv.ofCls v.cls) (by rw [hn]; simp)
    have m2 := hcl v hv (Pv.ofPair v.name v.desc) (by rw [hn]; simp)
    have n1 := Pv.needs_cls v.cls
    have n2 := Pv.needs_pair v.name v.desc
    rw [Pv.rawOf_two hn]
    refine right_911 A c _ _ _ _ _ _ _ _ w hx hL h4 (raws_at m1) (Pv.rawOf_tag _ _) (raws_at m2) (Pv.rawOf_tag _ _) (x1 := (Pv.ofText v.cls).rawOf (Pv.num O)) (y1 := (Pv.ofText v.name).rawOf (Pv.num O)) (y2 := (Pv.ofText v.desc).rawOf (Pv.num O)) ?_ (tt1 _) ?_ (tt1 _) ?_ (tt1 _)
    · rw [Pv.rawOf_one n1]; exact at1 _ (hcl _ m1 _ (by rw [n1]; simp))
    · rw [Pv.rawOf_two n2]; exact at1 _ (hcl _ m2 _ (by rw [n2]; simp))
    · rw [Pv.rawOf_two n2]; exact at1 _ (hcl _ m2 _ (by rw [n2]; simp))
  · exfalso
    unfold Pv.chk at hc
    rw [if_neg (by omega), if_neg (by omega), if_neg (by omega), if_neg (by omega)] at hc
    exact absurd hc (by decide)
end Go.Proofs.Ytimheacdaafodaa
