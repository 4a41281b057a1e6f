/- prefix's Put; a fixed block of no tokens; the fixed calls. -/
import Derived.Test.YtjbbhfloomejoaaFx
namespace Go.Proofs.Ytjbbhfloomejoaa
open Go.RowKit
set_option maxHeartbeats 2000000 in
set_option maxRecDepth 100000 in
theorem cput_any (l : List Nat) (i n r : Nat) (hi : l[i]? = some n) (hn : 1 ≤ n ∧ n ≤ 15) (_hl : l.length ≤ 1000) (x : World) (cbase cb : Nat) (h : CodeS x cbase cb l) (hr : r < 4294967296)
    (hrev : ∀ w, Calls Try.prog 72 #[.int .u32 (Pf.wd l i : Nat), .int .i64 (n : Nat)] w fun e w' => e = .returned (.int .u32 (r : Nat)) ∧ w' = w)
    (base b : Nat) (u : Value) (V L : Nat) (hw : Wr x base b u V L) (hL : L ≤ 10000000000) :
    Calls Try.prog 51 #[.pointer (some ⟨cb, 0, none⟩), .pointer (some ⟨b, 0, none⟩), .int .i64 (i : Nat)] x fun e y => e = .returned (.int .i64 0) ∧ ∃ u', Wr y base b u' (wv V L r n) (L + n) ∧ WFrm x y b u.ownBlock u'.ownBlock := by
  obtain ⟨lv, G, ov, h1, h2, h3, _, _, _⟩ := h.out
  obtain ⟨A, c, rfl, hx⟩ := h2.reads
  have hil : i < l.length := (List.getElem?_eq_some_iff.1 hi).1
  obtain ⟨g, o, n', rfl, hgz, hx1, hc⟩ := hx.at_ (i := i) (by rw [il_len]; exact hil)
  rw [il_get hi] at hx1
  cases hx1
  have c0 := h1.cell (k := 0) (by decide)
  rw [show cdf (.slice (some ⟨g, o, none⟩) (il l).length c) (.slice (some ⟨G, 0, none⟩) l.length l.length) (Pf.cc l 15 0) ov 0 = .slice (some ⟨g, o, none⟩) (il l).length c from rfl, il_len] at c0
  have c1 := h1.cell (k := 1) (by decide)
  rw [show cdf (.slice (some ⟨g, o, none⟩) (il l).length c) (.slice (some ⟨G, 0, none⟩) l.length l.length) (Pf.cc l 15 0) ov 1 = .slice (some ⟨G, 0, none⟩) l.length l.length from rfl] at c1
  have fz := h1.lt
  have d1 := h3.cell hil
  have zG := h3.lt
  have HR := Lib.hid (hrev x)
  have HP := Lib.hid (wput_any r n hr (by omega) x base b u V L hw (by omega))
  generalize Pf.wd l i = wd at d1 HR
  clear h h1 h2 h3 hx hi hrev hw
  have q1 : ¬ ((i : Int) < 0) := by omega
  have q2 : ¬ ((l.length : Int) ≤ (i : Int)) := by omega
  have q3 : ((n : Int) == 0) = false := beq_eq_false_iff_ne.2 (by omega)
  go_enter Try.func51, Try.ntmps51
  go_wp2_with fail
  refine HR.out.mono ?_
  rintro e w1 ⟨rfl, rfl⟩
  go_wp2_with fail
  refine HP.out.mono ?_
  rintro e y ⟨rfl, u1, k1, k2⟩
  have K1 := Lib.hid k1
  have K2 := Lib.hid k2
  clear k1 k2 HP HR
  go_wp2_with fail
  go_ret
  exact ⟨rfl, u1, K1.out, K2.out⟩
set_option maxHeartbeats 2000000 in
set_option maxRecDepth 100000 in
theorem cwrite_nil (x : World) (cbase sb fb L D : Nat) (h : CodeS x cbase sb Fx.signs) (base b : Nat) (u : Value) (V M : Nat) (hw : Wr x base b u V M) (hM : M ≤ 10000000000) :
    Calls Try.prog 28 #[.agg #[.pointer (some ⟨sb, 0, none⟩), .pointer (some ⟨fb, 0, none⟩), .slice (some ⟨L, 0, none⟩) 288 288, .slice (some ⟨D, 0, none⟩) 32 32], .pointer (some ⟨b, 0, none⟩), .slice none 0 0] x fun e y => e = .returned (.tuple #[]) ∧ ∃ u', Wr y base b u' (wv V M 0 7) (M + 7) ∧ Below base x y := by
  have k := (Below.refl x.heap.size x).alloc (Nat.le_refl _) (.cells #[.pointer (some ⟨sb, 0, none⟩), .pointer (some ⟨fb, 0, none⟩), .slice (some ⟨L, 0, none⟩) 288 288, .slice (some ⟨D, 0, none⟩) 32 32] 58)
  have HB := Lib.hid (heap_alloc_new x (.cells #[.pointer (some ⟨sb, 0, none⟩), .pointer (some ⟨fb, 0, none⟩), .slice (some ⟨L, 0, none⟩) 288 288, .slice (some ⟨D, 0, none⟩) 32 32] 58))
  have C := Lib.hid (cput_any Fx.signs 256 7 0 (Fx.signs_get (by decide)) (by decide) (by rw [Fx.signs_len]; decide) _ cbase sb (h.grow k) (by decide) (fun w => by
    rw [show Pf.wd Fx.signs 256 = 0 from by kernel_rfl]
    exact reverse_zero 7 (by decide) w) base b u V M (hw.grow k) hM)
  have HW := Lib.hid (hw.grow k)
  have KX := Lib.hid (k.mono hw.at_.base)
  clear k h hw
  go_enter Try.func28, Try.ntmps28
  go_upto_region 2 with fail
  generalize x.alloc (.cells #[.pointer (some ⟨sb, 0, none⟩), .pointer (some ⟨fb, 0, none⟩), .slice (some ⟨L, 0, none⟩) 288 288, .slice (some ⟨D, 0, none⟩) 32 32] 58) = W0 at HB C HW KX ⊢
  go_loopw [18] (fun s18 wr => s18 = .int .i64 (0 : Nat) ∧ wr = W0) (fun _ _ => 0)
  case atStart => exact ⟨rfl, rfl⟩
  case round =>
    obtain ⟨rfl, rfl⟩ := hrel
    have c0 : wr.cell? ⟨x.heap.size, 0, none⟩ = some (.pointer (some ⟨sb, 0, none⟩)) := by rw [Lib.cell_of_heap HB.out]; rfl
    have fz := (Array.getElem?_eq_some_iff.1 HB.out).1
    go_wp2_with fail
    refine C.out.mono ?_
    rintro e y ⟨rfl, u1, k1, k2⟩
    have K1 := Lib.hid k1
    have KY := Lib.hid (KX.out.trans (HW.out.frm k2))
    clear k1 k2 C c0 fz HW KX
    go_wp2_with fail
    go_end0
    exact ⟨rfl, u1, K1.out, KY.out⟩
set_option maxHeartbeats 2000000 in
set_option maxRecDepth 100000 in
theorem cbits_nil (x : World) (sb fb L D : Nat) (h : IB x L 288 3 Fx.sign) :
    Calls Try.prog 29 #[.agg #[.pointer (some ⟨sb, 0, none⟩), .pointer (some ⟨fb, 0, none⟩), .slice (some ⟨L, 0, none⟩) 288 288, .slice (some ⟨D, 0, none⟩) 32 32], .slice none 0 0] x fun e y => e = .returned (.int .i64 7) ∧ Below x.heap.size x y := by
  have k := (Below.refl x.heap.size x).alloc (Nat.le_refl _) (.cells #[.pointer (some ⟨sb, 0, none⟩), .pointer (some ⟨fb, 0, none⟩), .slice (some ⟨L, 0, none⟩) 288 288, .slice (some ⟨D, 0, none⟩) 32 32] 58)
  have hb := heap_alloc_new x (.cells #[.pointer (some ⟨sb, 0, none⟩), .pointer (some ⟨fb, 0, none⟩), .slice (some ⟨L, 0, none⟩) 288 288, .slice (some ⟨D, 0, none⟩) 32 32] 58)
  have hi := h.grow k
  have HB := Lib.hid hb
  have HI := Lib.hid hi
  have KX := Lib.hid k
  clear k h hb hi
  go_enter Try.func29, Try.ntmps29
  go_upto_region 1 with fail
  generalize x.alloc (.cells #[.pointer (some ⟨sb, 0, none⟩), .pointer (some ⟨fb, 0, none⟩), .slice (some ⟨L, 0, none⟩) 288 288, .slice (some ⟨D, 0, none⟩) 32 32] 58) = W0 at HB HI KX ⊢
  have c0 : W0.cell? ⟨x.heap.size, 2, none⟩ = some (.slice (some ⟨L, 0, none⟩) 288 288) := by rw [Lib.cell_of_heap HB.out]; rfl
  have fz := (Array.getElem?_eq_some_iff.1 HB.out).1
  have c1 := HI.out.cell (k := 256) (by decide)
  rw [show Fx.sign 256 = 7 from rfl] at c1
  have fz2 := HI.out.lt
  go_upto_region 3 with fail
  go_loopw [5, 26] (fun s5 s26 wr => s5 = .int .i64 7 ∧ s26 = .int .i64 (0 : Nat) ∧ wr = W0) (fun _ _ _ => 0)
  case atStart => exact ⟨rfl, rfl, rfl⟩
  case round =>
    obtain ⟨rfl, rfl, rfl⟩ := hrel
    go_wp2_with fail
    go_ret
    exact ⟨rfl, KX.out⟩
set_option maxHeartbeats 2000000 in
theorem fixed_nil (x : World) (base b : Nat) (u : Value) (hw : Wr x base b u 0 0) : Calls Try.prog 11 #[.pointer (some ⟨b, 0, none⟩), .slice none 0 0, .bool true] x fun e y => e = .returned (.int .i64 0) ∧ ∃ u', Wr y base b u' 3 10 ∧ Below base x y := by
  have HH := Lib.hid (head_any 1 true (by decide) x base b u 0 0 hw (by decide))
  have HW := Lib.hid hw
  clear hw
  go_enter Try.func11, Try.ntmps11
  go_wp2_with fail
  refine (right_nil _).mono ?_
  rintro e w0 ⟨rfl, rfl⟩
  go_wp2_with fail
  refine HH.out.mono ?_
  rintro e y ⟨rfl, u1, k1, k2⟩
  have K1 := Lib.hid k1
  have KY := Lib.hid (HW.out.frm k2)
  clear k1 k2 HH
  go_wp2_with fail
  refine (fixedCodes_any y).mono ?_
  rintro e z ⟨sb, fb, L, D, rfl, s1, _, _, _, _, _, hb⟩
  have C := Lib.hid (cwrite_nil z y.heap.size sb fb L D s1 base b u1 _ _ (K1.out.grow hb) (by decide))
  have KZ := Lib.hid (KY.out.trans (hb.mono (K1.out.at_.base)))
  clear s1 hb K1 KY
  go_wp2_with fail
  refine C.out.mono ?_
  rintro e w9 ⟨rfl, u2, k2, k3⟩
  have K2 := Lib.hid (show Wr w9 base b u2 3 10 from k2)
  have K9 := Lib.hid (KZ.out.trans k3)
  clear k2 k3 C KZ HW
  go_wp2_with fail
  go_ret
  exact ⟨rfl, u2, K2.out, K9.out⟩
theorem fixedBits_nil (x : World) : Calls Try.prog 12 #[.slice none 0 0] x fun e y => e = .returned (.int .i64 10) ∧ Below x.heap.size x y := by
  go_enter Try.func12, Try.ntmps12
  go_wp2_with fail
  refine (right_nil _).mono ?_
  rintro e w0 ⟨rfl, rfl⟩
  go_wp2_with fail
  refine (fixedCodes_any _).mono ?_
  rintro e z ⟨sb, fb, L, D, rfl, _, _, i1, _, _, _, hb⟩
  have KZ := Lib.hid hb
  have C := Lib.hid (cbits_nil z sb fb L D i1)
  clear i1 hb
  go_wp2_with fail
  refine C.out.mono ?_
  rintro e w9 ⟨rfl, h9⟩
  have K9 := Lib.hid (KZ.out.trans (h9.mono KZ.out.size))
  clear C h9 KZ
  go_wp2_with fail
  go_ret
  exact ⟨rfl, K9.out⟩
set_option maxHeartbeats 2000000 in
theorem fixed09_any (w : World) : Calls Try.prog 6 #[] w fun e w' => e = .returned (.bool true) ∧ Below w.heap.size w w' := by
  go_enter Try.func6, Try.ntmps6
  go_wp2_with fail
  refine (wnew_any _).mono ?_
  rintro e x ⟨rfl, k1, hb0⟩
  have C1 := Lib.hid (fixed_nil x _ _ _ k1)
  have B0 := Lib.hid hb0
  clear k1 hb0
  go_wp2_with fail
  refine C1.out.mono ?_
  rintro e x1 ⟨rfl, u1, k2, hb1⟩
  have K2 := Lib.hid k2
  have B1 := Lib.hid (B0.out.trans hb1)
  clear k2 C1 hb1 B0
  go_wp2_with fail
  refine (lsign_any 13 (by decide) _).mono ?_
  rintro e x2 ⟨rfl, hb⟩
  rw [show Bl.lsg 13 = 266 from by kernel_rfl, show Bl.lenB 266 = 13 from by kernel_rfl]
  have K3 := Lib.hid (K2.out.grow hb)
  have B2 := Lib.hid (B1.out.trans (hb.mono B1.out.size))
  clear hb K2 B1
  go_wp2_with fail
  refine (dsign_any_bad 0 (by decide) _).mono ?_
  rintro e x3 ⟨rfl, hb⟩
  have k4 := K3.out.grow hb
  have C4 := Lib.hid (wbytes_any x3 _ _ _ _ _ k4 (by decide))
  have B3 := Lib.hid (B2.out.trans (hb.mono B2.out.size))
  clear hb K3 k4 B2
  go_wp2_with fail
  refine C4.out.mono ?_
  rintro e x4 ⟨v, rfl, hr, hb4⟩
  have B4 := Lib.hid (B3.out.trans (hb4.mono B3.out.size))
  clear hb4 B3
  obtain ⟨A, c, rfl, ha⟩ := hr.at_
  have ht := ha.text
  rw [show byts 3 ((10 + 7) / 8) = [3, 0] from by kernel_rfl] at ht ⊢
  have ht2 : (convert 23 9 (.slice A 2 c)).run Try.prog x4 = .ok (.string (bs [3, 0])) x4 := ht
  have hs : ((bs [3, 0]).toList == [3, 0]) = true := by kernel_rfl
  clear hr ha C4 ht
  go_wp2_with fail
  refine (stored_nil _).mono ?_
  rintro e w7 ⟨rfl, rfl⟩
  go_wp2_with fail
  refine (fixedBits_nil _).mono ?_
  rintro e w8 ⟨rfl, hb8⟩
  have B8 := Lib.hid (B4.out.trans (hb8.mono B4.out.size))
  clear hb8 B4
  go_wp2_with fail
  go_ret
  exact ⟨rfl, B8.out⟩
end Go.Proofs.Ytjbbhfloomejoaa
