/- What is no token isn't written: the refusals, and the law BlocksRefuse. -/
import Derived.Test.YtjbbhfloomejoaaWrD
import Derived.Test.YtjbbhfloomejoaaTokS
namespace Go.Proofs.Ytjbbhfloomejoaa
open Go.RowKit
section
variable (A : Option Addr) (c : Nat) (l : List Tk) (x : World) (h : Toks x A c l) (hl : ∀ t ∈ l, t.fits) (hn : l.length ≤ 1000) (hw : l.all Tk.right = false) (b : Nat)
include h hl hn hw
theorem fixed_wrong : Calls Try.prog 11 #[.pointer (some ⟨b, 0, none⟩), .slice A l.length c, .bool true] x fun e y => e = .returned (.int .i64 5) ∧ Below x.heap.size x y := by
  have C := Lib.hid (rights_any A c l x h hl (by omega))
  rw [hw] at C
  clear h hl hw
  go_enter Try.func11, Try.ntmps11
  go_wp2_with fail
  refine C.out.mono ?_
  rintro e y ⟨rfl, hb⟩
  have KB := Lib.hid hb
  clear hb C
  go_wp2_with fail
  go_ret
  exact ⟨rfl, KB.out⟩
theorem dynamic_wrong : Calls Try.prog 14 #[.pointer (some ⟨b, 0, none⟩), .slice A l.length c, .bool true] x fun e y => e = .returned (.int .i64 5) ∧ Below x.heap.size x y := by
  have C := Lib.hid (rights_any A c l x h hl (by omega))
  rw [hw] at C
  clear h hl hw
  go_enter Try.func14, Try.ntmps14
  go_wp2_with fail
  refine C.out.mono ?_
  rintro e y ⟨rfl, hb⟩
  have KB := Lib.hid hb
  clear hb C
  go_wp2_with fail
  go_ret
  exact ⟨rfl, KB.out⟩
theorem write_wrong : Calls Try.prog 16 #[.pointer (some ⟨b, 0, none⟩), .slice A l.length c, .slice none 0 0, .bool true] x fun e y => e = .returned (.int .i64 5) ∧ Below x.heap.size x y := by
  have C := Lib.hid (rights_any A c l x h hl (by omega))
  rw [hw] at C
  clear h hl hw
  go_enter Try.func16, Try.ntmps16
  go_wp2_with fail
  refine C.out.mono ?_
  rintro e y ⟨rfl, hb⟩
  have KB := Lib.hid hb
  clear hb C
  go_wp2_with fail
  go_ret
  exact ⟨rfl, KB.out⟩
omit b in
theorem fixedBits_wrong : Calls Try.prog 12 #[.slice A l.length c] x fun e y => e = .returned (.int .i64 0) ∧ Below x.heap.size x y := by
  have C := Lib.hid (rights_any A c l x h hl (by omega))
  rw [hw] at C
  clear h hl hw
  go_enter Try.func12, Try.ntmps12
  go_wp2_with fail
  refine C.out.mono ?_
  rintro e y ⟨rfl, hb⟩
  have KB := Lib.hid hb
  clear hb C
  go_wp2_with fail
  go_ret
  exact ⟨rfl, KB.out⟩
theorem dynamicBits_wrong : Calls Try.prog 15 #[.slice A l.length c] x fun e y => e = .returned (.int .i64 0) ∧ Below x.heap.size x y := by
  have C := Lib.hid (rights_any A c l x h hl (by omega))
  rw [hw] at C
  clear h hl hw
  go_enter Try.func15, Try.ntmps15
  go_wp2_with fail
  refine C.out.mono ?_
  rintro e y ⟨rfl, hb⟩
  have KB := Lib.hid hb
  clear hb C
  go_wp2_with fail
  go_ret
  exact ⟨rfl, KB.out⟩
end
theorem fixed_none (x : World) : Calls Try.prog 11 #[.pointer none, .slice none 0 0, .bool true] x fun e y => e = .returned (.int .i64 1) ∧ y = x := by
  go_enter Try.func11, Try.ntmps11
  go_wp2_with fail
  go_ret
  exact ⟨rfl, rfl⟩
theorem dynamic_none (x : World) : Calls Try.prog 14 #[.pointer none, .slice none 0 0, .bool true] x fun e y => e = .returned (.int .i64 1) ∧ y = x := by
  go_enter Try.func14, Try.ntmps14
  go_wp2_with fail
  go_ret
  exact ⟨rfl, rfl⟩
theorem write_none (x : World) : Calls Try.prog 16 #[.pointer none, .slice none 0 0, .slice none 0 0, .bool true] x fun e y => e = .returned (.int .i64 1) ∧ y = x := by
  go_enter Try.func16, Try.ntmps16
  go_wp2_with fail
  go_ret
  exact ⟨rfl, rfl⟩
theorem Toks.frm {x y : World} {A : Option Addr} {c : Nat} {l : List Tk} {b : Nat} {o o' : Option Nat} (h : Toks x A c l) (hb : ∀ g s, A = some ⟨g, s, none⟩ → 0 < l.length → g ≠ b ∧ some g ≠ o) (k : WFrm x y b o o') : Toks y A c l := by
  obtain ⟨⟨_, _, _, k4, k5⟩, _⟩ := k
  refine ⟨h.1, fun hp => ?_⟩
  obtain ⟨g, s, e, hg, hc⟩ := h.2 hp
  obtain ⟨a1, a2⟩ := hb g s e hp
  refine ⟨g, s, e, Nat.lt_of_lt_of_le hg k4, fun j v hv => ?_⟩
  obtain ⟨p0, p1, p2⟩ := hc j v hv
  have hk := k5 g hg a1 a2
  exact ⟨(World.cell?_of_block hk).trans p0, (World.cell?_of_block hk).trans p1, (World.cell?_of_block hk).trans p2⟩
theorem madeB (n : Nat) : (madeCells (Value.int .u8 0).cells (n * 1)).toList = cb (List.replicate n 0) := by
  unfold madeCells cb
  rw [Array.toList_map, Array.toList_range, Nat.mul_one, List.map_replicate]
  refine List.ext_getElem (by simp) fun i h1 h2 => ?_
  simp only [List.getElem_map, List.getElem_range, List.getElem_replicate]
  show (#[Value.int .u8 0] : Array Value)[i % 1]! = _
  rw [Nat.mod_one]
  rfl
theorem mod2 (m : UInt8) : ((m.toNat : Int)).tmod 2 = ((m.toNat % 2 : Nat) : Int) := by
  rw [Int.tmod_eq_emod_of_nonneg (by omega)]
  omega
set_option maxHeartbeats 8000000 in
set_option maxRecDepth 100000 in
theorem refuse_any (A : Option Addr) (c : Nat) (l : List Tk) (t : Tk) (m : UInt8) (w : World) (h : Toks w A c l) (hl : ∀ t ∈ l, t.fits) (hn : l.length ≤ 140737488355328) (ht : t.fits) :
    Calls Try.prog 5 #[.slice A l.length c, tv t, .int .u8 (m.toNat : Int)] w fun e w' => e = .returned (.bool true) ∧ Below w.heap.size w w' := by
  have k0 := (Below.refl w.heap.size w).alloc (Nat.le_refl _) (.cells #[.int .u8 (t.lit.toNat : Int), .int .i64 t.len, .int .i64 t.dist] 43)
  have TB := Lib.hid (tbox_new w t)
  have HX := Lib.hid (h.grow k0)
  have K0 := Lib.hid k0
  have HL := Lib.hid hl
  have HT := Lib.hid ht
  clear h hl ht k0
  unfold tv
  go_enter Try.func5, Try.ntmps5
  go_upto_region 1 with fail
  generalize w.alloc (.cells #[.int .u8 (t.lit.toNat : Int), .int .i64 t.len, .int .i64 t.dist] 43) = W0 at TB HX K0 ⊢
  go_wp2_with fail
  refine (fixed09_any _).mono ?_
  rintro e w1 ⟨rfl, hb⟩
  have K1 := Lib.hid (K0.out.trans (hb.mono K0.out.size))
  have TB1 := Lib.hid (TB.out.grow hb)
  have HX1 := Lib.hid (HX.out.grow hb)
  clear hb TB HX K0
  by_cases h40 : 40 < l.length
  · as_aux_lemma =>
    have p1 : (l.length : Int) > 40 := by omega
    go_wp2_with fail
    go_ret
    exact ⟨rfl, K1.out⟩
  · as_aux_lemma =>
    have p1 : ¬ ((l.length : Int) > 40) := by omega
    have C := Lib.hid (rright_any t HT.out w1)
    unfold tv at C
    obtain ⟨c0, c1, c2⟩ := TB1.out.at_
    have fz := TB1.out.lt
    go_wp2_with fail
    refine C.out.mono ?_
    rintro e w2 ⟨rfl, hb⟩
    have K2 := Lib.hid (K1.out.trans (hb.mono K1.out.size))
    have TB2 := Lib.hid (TB1.out.grow hb)
    have HX2 := Lib.hid (HX1.out.grow hb)
    clear hb C c0 c1 c2 fz K1 TB1 HX1
    cases hr : t.right with
    | true =>
      as_aux_lemma =>
      go_wp2_with fail
      go_ret
      exact ⟨rfl, K2.out⟩
    | false =>
      as_aux_lemma =>
      have D := Lib.hid (tokens_any A c l w2 HX2.out HL.out (by omega))
      go_wp2_with fail
      refine D.out.mono ?_
      rintro e w3 ⟨u3, v3, rfl, hr3, _, hb⟩
      have K3 := Lib.hid (K2.out.trans (hb.mono K2.out.size))
      have TB3 := Lib.hid (TB2.out.grow hb)
      obtain ⟨A3, d3, rfl, _⟩ := hr3.reads
      have HR3 := Lib.hid hr3
      have S23 := Lib.hid hb.size
      have S2 := Lib.hid K2.out.size
      have HLT := Lib.hid (Tk.toks_fits HL.out l.length (Nat.le_refl _))
      have HTL := Lib.hid (Tk.toks_good l l.length (Nat.le_refl _)).2
      rw [List.take_length] at HLT HTL
      clear hb D K2 TB2 HX2 hr3
      generalize hts : Tk.toks l = ts at *
      clear hts
      obtain ⟨c0, c1, c2⟩ := TB3.out.at_
      have fz := TB3.out.lt
      have kz := (Below.refl w3.heap.size w3).alloc (Nat.le_refl _) (.cells #[.int .u8 (t.lit.toNat : Int), .int .i64 t.len, .int .i64 t.dist] 43)
      have KZ := Lib.hid kz
      clear kz
      go_wp2_with (at_builtin; refine wpList_appTk rfl _ _ rfl w2.heap.size _ ts rfl (HR3.out.grow KZ.out) _ [t] rfl (src_tok (heap_alloc_new _ _) _) (by have := HTL.out; simp; omega) (Nat.le_trans S23.out KZ.out.size) ?_; intro v4 w4 hr4 hp4; obtain ⟨A4, d4, e4, ht4, _⟩ := hr4.reads; subst e4; have HR4 := Lib.hid ht4; have K4 := Lib.hid ((K3.out.trans (KZ.out.mono K3.out.size)).trans (hp4.below (Nat.le_trans K3.out.size KZ.out.size) (fun k hk => Nat.le_trans S2.out (TkRow.base_le (HR3.out.grow KZ.out) hk)))); clear hr4 hp4 ht4)
      have hlen : (ts ++ [t]).length = ts.length + 1 := by simp
      have HR5 := Lib.hid (show Toks w4 A4 d4 (ts ++ [t]) from HR4.out)
      have HBAD := Lib.hid (show (ts ++ [t]).all Tk.right = false by simp [hr])
      have HFIT := Lib.hid (show ∀ x ∈ ts ++ [t], x.fits from fun x hx => (List.mem_append.1 hx).elim (HLT.out x) (fun h => by rw [List.mem_singleton.1 h]; exact HT.out))
      have HLN := Lib.hid (show (ts ++ [t]).length ≤ 41 by have := HTL.out; rw [hlen]; omega)
      generalize hl2 : ts ++ [t] = l2 at hlen HR5 HBAD HFIT HLN
      rw [← hlen]
      clear HR4 HLT HTL hl2 hlen hr c0 c1 c2 fz KZ HR3 TB3 K3 S23 S2
      refine (wnew_any w4).mono ?_
      rintro e w5 ⟨rfl, k5, hb⟩
      have K5 := Lib.hid (K4.out.trans (hb.mono K4.out.size))
      have HR6 := Lib.hid (HR5.out.grow hb)
      have NB := Lib.hid (fun g s (e : A4 = some ⟨g, s, none⟩) (hp : 0 < l2.length) => (show g < w4.heap.size from by
        obtain ⟨g', s', e', hg, _⟩ := HR5.out.2 hp
        rw [e] at e'; cases e'; exact hg))
      have W5 := Lib.hid k5
      have S4 := Lib.hid K4.out.size
      clear k5 hb K4 HR5
      obtain ⟨b, HBE⟩ : ∃ b, Hid (b = w4.heap.size) := ⟨_, Lib.hid rfl⟩
      rw [← HBE.out] at W5 NB ⊢
      have hwb : w.heap.size ≤ b := by rw [HBE.out]; exact S4.out
      obtain ⟨r, hr2, hm⟩ : ∃ r, r < 2 ∧ m.toNat % 2 = r := ⟨_, by omega, rfl⟩
      have e1 : (m.toNat : Int) % 2 = (r : Int) := by omega
      have e2 : (m.toNat : Int).tmod 2 = (r : Int) := by rw [mod2, hm]
      have HM := Lib.hid hm
      clear hm
      obtain ⟨i0, hi0, hz0, hz1, hz2⟩ := info_parts infoByte
      go_wp2_with (at_make; refine wpList_make_full w5 rfl _ _ _ rfl w5.heap.size 5 i0 _ 1 Try.underlying23 hi0 hz0 hz1 .i64 .i64 _ _ (65535 + r) rfl rfl (by omega) (by omega) (by rw [hz2]; omega) (by unfold maxLen; omega) (Nat.le_refl _) ?_; intro w6 hown hgr)
      have kg : Below w5.heap.size w5 w6 := ⟨hgr.os, hgr.tape, hgr.output, hgr.size, fun k hk => hgr.block k hk (by simp)⟩
      have hbr : BRow w6 w5.heap.size 5 (.slice (some ⟨w5.heap.size, 0, none⟩) (65535 + r) (65535 + r)) (List.replicate (65535 + r) 0) := by
        unfold BRow
        rw [List.length_replicate, ← madeB]
        exact hown
      obtain ⟨A7, c7, e7, hat⟩ := hbr.at_
      rw [List.length_replicate] at e7
      injection e7 with q1 q2 q3
      subst q1 q3
      have hat2 := hat.take 65535
      rw [List.take_replicate, Nat.min_eq_left (by omega)] at hat2
      have W6 := Lib.hid (W5.out.grow kg)
      have C7 := stored_any _ (65535 + r) (List.replicate 65535 0) true w6 hat2 (by rw [List.length_replicate]; decide) b b _ 0 0 W6.out (by decide) (fun _ g s e => by
        cases e
        exact ⟨by have := W5.out.at_.box.lt; omega, fun e => by cases e⟩)
      rw [List.length_replicate] at C7
      have C := Lib.hid C7
      have K6 := Lib.hid (K5.out.trans (kg.mono K5.out.size))
      have HR7 := Lib.hid (HR6.out.grow kg)
      obtain ⟨G, hG⟩ : ∃ G, G = w5.heap.size := ⟨_, rfl⟩
      rw [← hG] at C ⊢
      clear kg hbr hat hat2 hown hgr hG C7 hi0 hz0 hz1 hz2 W5 K5 HR6 q2
      refine C.out.mono ?_
      rintro e w7 ⟨rfl, u7, k7, f7⟩
      have K7 := Lib.hid (K6.out.trans ((W6.out.frm f7).mono hwb))
      have HR8 := Lib.hid (HR7.out.frm (fun g s e hp => ⟨by have := NB.out g s e hp; omega, fun e => by cases e⟩) f7)
      have W7 := Lib.hid (show Wr w7 b b u7 (St.all 0 0 true (List.replicate 65535 0)).1 524320 from k7)
      clear k7 f7 C K6 HR7 W6
      have CL := Lib.hid (wlen_any w7 b b u7 _ _ W7.out (by decide))
      go_wp2_with fail
      refine CL.out.mono ?_
      rintro e w8 ⟨rfl, hb⟩
      have K8 := Lib.hid (K7.out.trans (hb.mono K7.out.size))
      have W8 := Lib.hid (W7.out.grow hb)
      have HR9 := Lib.hid (HR8.out.grow hb)
      clear hb CL K7 W7 HR8
      generalize (St.all 0 0 true (List.replicate 65535 0)).1 = V8 at W8
      rcases (by omega : r = 0 ∨ r = 1) with rfl | rfl
      · as_aux_lemma =>
        go_wp2_with fail
        refine (fixed_wrong A4 d4 l2 w8 HR9.out HFIT.out (by have := HLN.out; omega) HBAD.out b).mono ?_
        rintro e y1 ⟨rfl, hb⟩
        have KA := Lib.hid (K8.out.trans (hb.mono K8.out.size))
        have WA := Lib.hid (W8.out.grow hb)
        have HA := Lib.hid (HR9.out.grow hb)
        clear hb K8 W8 HR9
        go_wp2_with fail
        refine (dynamic_wrong A4 d4 l2 y1 HA.out HFIT.out (by have := HLN.out; omega) HBAD.out b).mono ?_
        rintro e y2 ⟨rfl, hb⟩
        have KB := Lib.hid (KA.out.trans (hb.mono KA.out.size))
        have WB := Lib.hid (WA.out.grow hb)
        have HB := Lib.hid (HA.out.grow hb)
        clear hb KA WA HA
        go_wp2_with fail
        refine (write_wrong A4 d4 l2 y2 HB.out HFIT.out (by have := HLN.out; omega) HBAD.out b).mono ?_
        rintro e y3 ⟨rfl, hb⟩
        have KC := Lib.hid (KB.out.trans (hb.mono KB.out.size))
        have WC := Lib.hid (WB.out.grow hb)
        have HC := Lib.hid (HB.out.grow hb)
        clear hb KB WB HB
        go_wp2_with fail
        refine (fixedBits_wrong A4 d4 l2 y3 HC.out HFIT.out (by have := HLN.out; omega) HBAD.out).mono ?_
        rintro e y4 ⟨rfl, hb⟩
        have KD := Lib.hid (KC.out.trans (hb.mono KC.out.size))
        have WD := Lib.hid (WC.out.grow hb)
        have HD := Lib.hid (HC.out.grow hb)
        clear hb KC WC HC
        go_wp2_with fail
        refine (dynamicBits_wrong A4 d4 l2 y4 HD.out HFIT.out (by have := HLN.out; omega) HBAD.out).mono ?_
        rintro e y5 ⟨rfl, hb⟩
        have KE := Lib.hid (KD.out.trans (hb.mono KD.out.size))
        have WE := Lib.hid (WD.out.grow hb)
        clear hb KD WD HD
        go_wp2_with fail
        refine (wlen_any y5 b b u7 _ _ WE.out (by decide)).mono ?_
        rintro e y6 ⟨rfl, hb⟩
        have KF := Lib.hid (KE.out.trans (hb.mono KE.out.size))
        clear hb KE WE
        go_wp2_with fail
        refine (fixed_none y6).mono ?_
        rintro e y7 ⟨rfl, rfl⟩
        go_wp2_with fail
        refine (dynamic_none y7).mono ?_
        rintro e y8 ⟨rfl, rfl⟩
        go_wp2_with fail
        refine (write_none y8).mono ?_
        rintro e y9 ⟨rfl, rfl⟩
        go_wp2_with fail
        go_ret
        exact ⟨rfl, KF.out⟩
      · as_aux_lemma =>
        go_wp2_with fail
        refine (stored_long b (65535 + 1) (65535 + 1) (some ⟨G, 0, none⟩) (by decide) (by decide) true w8).mono ?_
        rintro e w9 ⟨rfl, rfl⟩
        go_wp2_with fail
        refine (fixed_wrong A4 d4 l2 w9 HR9.out HFIT.out (by have := HLN.out; omega) HBAD.out b).mono ?_
        rintro e y1 ⟨rfl, hb⟩
        have KA := Lib.hid (K8.out.trans (hb.mono K8.out.size))
        have WA := Lib.hid (W8.out.grow hb)
        have HA := Lib.hid (HR9.out.grow hb)
        clear hb K8 W8 HR9
        go_wp2_with fail
        refine (dynamic_wrong A4 d4 l2 y1 HA.out HFIT.out (by have := HLN.out; omega) HBAD.out b).mono ?_
        rintro e y2 ⟨rfl, hb⟩
        have KB := Lib.hid (KA.out.trans (hb.mono KA.out.size))
        have WB := Lib.hid (WA.out.grow hb)
        have HB := Lib.hid (HA.out.grow hb)
        clear hb KA WA HA
        go_wp2_with fail
        refine (write_wrong A4 d4 l2 y2 HB.out HFIT.out (by have := HLN.out; omega) HBAD.out b).mono ?_
        rintro e y3 ⟨rfl, hb⟩
        have KC := Lib.hid (KB.out.trans (hb.mono KB.out.size))
        have WC := Lib.hid (WB.out.grow hb)
        have HC := Lib.hid (HB.out.grow hb)
        clear hb KB WB HB
        go_wp2_with fail
        refine (fixedBits_wrong A4 d4 l2 y3 HC.out HFIT.out (by have := HLN.out; omega) HBAD.out).mono ?_
        rintro e y4 ⟨rfl, hb⟩
        have KD := Lib.hid (KC.out.trans (hb.mono KC.out.size))
        have WD := Lib.hid (WC.out.grow hb)
        have HD := Lib.hid (HC.out.grow hb)
        clear hb KC WC HC
        go_wp2_with fail
        refine (dynamicBits_wrong A4 d4 l2 y4 HD.out HFIT.out (by have := HLN.out; omega) HBAD.out).mono ?_
        rintro e y5 ⟨rfl, hb⟩
        have KE := Lib.hid (KD.out.trans (hb.mono KD.out.size))
        have WE := Lib.hid (WD.out.grow hb)
        clear hb KD WD HD
        go_wp2_with fail
        refine (wlen_any y5 b b u7 _ _ WE.out (by decide)).mono ?_
        rintro e y6 ⟨rfl, hb⟩
        have KF := Lib.hid (KE.out.trans (hb.mono KE.out.size))
        clear hb KE WE
        go_wp2_with fail
        refine (fixed_none y6).mono ?_
        rintro e y7 ⟨rfl, rfl⟩
        go_wp2_with fail
        refine (dynamic_none y7).mono ?_
        rintro e y8 ⟨rfl, rfl⟩
        go_wp2_with fail
        refine (write_none y8).mono ?_
        rintro e y9 ⟨rfl, rfl⟩
        go_wp2_with fail
        go_ret
        exact ⟨rfl, KF.out⟩
end Go.Proofs.Ytjbbhfloomejoaa
