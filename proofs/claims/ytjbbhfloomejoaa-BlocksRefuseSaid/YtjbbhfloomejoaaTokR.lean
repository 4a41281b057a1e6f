/- Whether it is a token: the program's, the document's; of all of a row. Printed by mk_tokr.py. -/
import Derived.Test.YtjbbhfloomejoaaTok
import Derived.OwnWalk
import Derived.OneCell
import Derived.Deep.Cut
import Derived.WalkSmall
import Derived.Deep.QuietTactic
import Derived.BigQuiet
import Derived.WalkKit
namespace Go.Proofs.Ytjbbhfloomejoaa
open Go.RowKit
theorem u8_zero (x : UInt8) : ((x.toNat : Int) == 0) = decide (x = 0) := by
  by_cases h : x = 0
  · subst h; rfl
  · rw [decide_eq_false h]
    refine beq_eq_false_iff_ne.2 fun e => h ?_
    apply UInt8.toNat_inj.1
    show x.toNat = 0
    omega

set_option maxHeartbeats 2000000 in
theorem mright_any (t : Tk) (ht : t.fits) (w : World) : Calls Try.prog 49 #[tv t] w fun e w' => e = .returned (.bool t.right) ∧ Below w.heap.size w w' := by
  have KX := Lib.hid ((Below.refl w.heap.size w).alloc (Nat.le_refl _) (.cells #[.int .u8 (t.lit.toNat : Int), .int .i64 t.len, .int .i64 t.dist] 43))
  obtain ⟨c0, c1, c2⟩ := (tbox_new w t).at_
  have fz := (tbox_new w t).lt
  obtain ⟨r1, r2⟩ := ht
  unfold I64 at r1 r2
  unfold tv
  have UZ := Lib.hid (u8_zero t.lit)
  go_enter Try.func49, Try.ntmps49
  go_upto_region 1 with fail
  generalize w.alloc (.cells #[.int .u8 (t.lit.toNat : Int), .int .i64 t.len, .int .i64 t.dist] 43) = W0 at c0 c1 c2 fz KX ⊢
  by_cases h0 : t.len = 0
  · have q0 : (t.len == 0) = true := beq_iff_eq.2 h0
    have HE := Lib.hid (show t.right = (t.dist == 0) from by unfold Tk.right; rw [if_pos h0]; exact (Bool.eq_iff_iff.2 (by simp)))
    clear h0
    go_wp2_with fail
    go_ret
    rw [HE.out]
    exact ⟨rfl, KX.out⟩
  · have q0 : (t.len == 0) = false := beq_eq_false_iff_ne.2 h0
    have HR := Lib.hid (show t.right = decide (3 ≤ t.len ∧ t.len ≤ 258 ∧ 1 ≤ t.dist ∧ t.dist ≤ 32768 ∧ t.lit = 0) from by unfold Tk.right; rw [if_neg h0])
    clear h0
    by_cases h1 : 3 ≤ t.len
    · by_cases h2 : t.len ≤ 258
      · by_cases h3 : 1 ≤ t.dist
        · by_cases h4 : t.dist ≤ 32768
          · by_cases h5 : t.lit = 0
            · have q5 : ((t.lit.toNat : Int) == 0) = true := by rw [UZ.out]; exact decide_eq_true h5
              have HE := Lib.hid (show t.right = true by rw [HR.out]; exact decide_eq_true ⟨h1, h2, h3, h4, h5⟩)
              clear h5
              go_wp2_with fail
              go_ret
              rw [HE.out]
              exact ⟨rfl, KX.out⟩
            · have q5 : ((t.lit.toNat : Int) == 0) = false := by rw [UZ.out]; exact decide_eq_false h5
              have HE := Lib.hid (show t.right = false by rw [HR.out]; exact decide_eq_false fun h => h5 h.2.2.2.2)
              clear h5
              go_wp2_with fail
              go_ret
              rw [HE.out]
              exact ⟨rfl, KX.out⟩
          · have HE := Lib.hid (show t.right = false by rw [HR.out]; exact decide_eq_false fun h => h4 h.2.2.2.1)
            go_wp2_with fail
            go_ret
            rw [HE.out]
            exact ⟨rfl, KX.out⟩
        · have HE := Lib.hid (show t.right = false by rw [HR.out]; exact decide_eq_false fun h => h3 h.2.2.1)
          go_wp2_with fail
          go_ret
          rw [HE.out]
          exact ⟨rfl, KX.out⟩
      · have HE := Lib.hid (show t.right = false by rw [HR.out]; exact decide_eq_false fun h => h2 h.2.1)
        go_wp2_with fail
        go_ret
        rw [HE.out]
        exact ⟨rfl, KX.out⟩
    · have HE := Lib.hid (show t.right = false by rw [HR.out]; exact decide_eq_false fun h => h1 h.1)
      go_wp2_with fail
      go_ret
      rw [HE.out]
      exact ⟨rfl, KX.out⟩

set_option maxHeartbeats 2000000 in
theorem rright_any (t : Tk) (ht : t.fits) (w : World) : Calls Try.prog 20 #[tv t] w fun e w' => e = .returned (.bool t.right) ∧ Below w.heap.size w w' := by
  have KX := Lib.hid ((Below.refl w.heap.size w).alloc (Nat.le_refl _) (.cells #[.int .u8 (t.lit.toNat : Int), .int .i64 t.len, .int .i64 t.dist] 43))
  obtain ⟨c0, c1, c2⟩ := (tbox_new w t).at_
  have fz := (tbox_new w t).lt
  obtain ⟨r1, r2⟩ := ht
  unfold I64 at r1 r2
  unfold tv
  have UZ := Lib.hid (u8_zero t.lit)
  go_enter Try.func20, Try.ntmps20
  go_upto_region 1 with fail
  generalize w.alloc (.cells #[.int .u8 (t.lit.toNat : Int), .int .i64 t.len, .int .i64 t.dist] 43) = W0 at c0 c1 c2 fz KX ⊢
  by_cases h0 : t.len = 0
  · have q0 : (t.len == 0) = true := beq_iff_eq.2 h0
    have HE := Lib.hid (show t.right = (t.dist == 0) from by unfold Tk.right; rw [if_pos h0]; exact (Bool.eq_iff_iff.2 (by simp)))
    clear h0
    go_wp2_with fail
    go_ret
    rw [HE.out]
    exact ⟨rfl, KX.out⟩
  · have q0 : (t.len == 0) = false := beq_eq_false_iff_ne.2 h0
    have HR := Lib.hid (show t.right = decide (3 ≤ t.len ∧ t.len ≤ 258 ∧ 1 ≤ t.dist ∧ t.dist ≤ 32768 ∧ t.lit = 0) from by unfold Tk.right; rw [if_neg h0])
    clear h0
    by_cases h1 : 3 ≤ t.len
    · by_cases h2 : t.len ≤ 258
      · by_cases h3 : 1 ≤ t.dist
        · by_cases h4 : t.dist ≤ 32768
          · by_cases h5 : t.lit = 0
            · have q5 : ((t.lit.toNat : Int) == 0) = true := by rw [UZ.out]; exact decide_eq_true h5
              have HE := Lib.hid (show t.right = true by rw [HR.out]; exact decide_eq_true ⟨h1, h2, h3, h4, h5⟩)
              clear h5
              go_wp2_with fail
              go_ret
              rw [HE.out]
              exact ⟨rfl, KX.out⟩
            · have q5 : ((t.lit.toNat : Int) == 0) = false := by rw [UZ.out]; exact decide_eq_false h5
              have HE := Lib.hid (show t.right = false by rw [HR.out]; exact decide_eq_false fun h => h5 h.2.2.2.2)
              clear h5
              go_wp2_with fail
              go_ret
              rw [HE.out]
              exact ⟨rfl, KX.out⟩
          · have HE := Lib.hid (show t.right = false by rw [HR.out]; exact decide_eq_false fun h => h4 h.2.2.2.1)
            go_wp2_with fail
            go_ret
            rw [HE.out]
            exact ⟨rfl, KX.out⟩
        · have HE := Lib.hid (show t.right = false by rw [HR.out]; exact decide_eq_false fun h => h3 h.2.2.1)
          go_wp2_with fail
          go_ret
          rw [HE.out]
          exact ⟨rfl, KX.out⟩
      · have HE := Lib.hid (show t.right = false by rw [HR.out]; exact decide_eq_false fun h => h2 h.2.1)
        go_wp2_with fail
        go_ret
        rw [HE.out]
        exact ⟨rfl, KX.out⟩
    · have HE := Lib.hid (show t.right = false by rw [HR.out]; exact decide_eq_false fun h => h1 h.1)
      go_wp2_with fail
      go_ret
      rw [HE.out]
      exact ⟨rfl, KX.out⟩

theorem next_less' {m i : Nat} (h : i < m) : m - (intOf (.int .i64 ((i : Int) + 1))).toNat < m - (intOf (.int .i64 (i : Int))).toNat := by
  show m - ((i : Int) + 1).toNat < m - (i : Int).toNat
  omega
set_option maxHeartbeats 4000000 in
set_option maxRecDepth 100000 in
theorem rights_any (A : Option Addr) (c : Nat) (l : List Tk) (w : World) (h : Toks w A c l) (hl : ∀ t ∈ l, t.fits) (hn : l.length ≤ 140737488355328) :
    Calls Try.prog 26 #[.slice A l.length c] w fun e w' => e = .returned (.bool (l.all Tk.right)) ∧ Below w.heap.size w w' := by
  have HX := Lib.hid h
  have HL := Lib.hid hl
  clear h hl
  go_enter Try.func26, Try.ntmps26
  go_upto_region 2 with fail
  go_loopw [7] (fun s7 wr => ∃ i : Nat, i ≤ l.length ∧ s7 = .int .i64 (i : Nat) ∧ (l.take i).all Tk.right = true ∧ Below w.heap.size w wr) (fun s7 _ => l.length - (intOf s7).toNat)
  case atStart => exact ⟨0, Nat.zero_le _, rfl, rfl, Below.refl _ _⟩
  case round =>
    obtain ⟨i, hi, rfl, ha, hK⟩ := hrel
    have HA := Lib.hid ha
    have K := Lib.hid hK
    clear ha hK
    by_cases h1 : i < l.length
    · as_aux_lemma =>
      obtain ⟨g, o, t, rfl, hgz, hx, k0, k1, k2⟩ := (HX.out.grow K.out).at_ h1
      have TF := Lib.hid (HL.out t (List.mem_of_getElem? hx))
      have HXI := Lib.hid hx
      have q1 : ¬ ((i : Int) < 0) := by omega
      have KA := (Below.refl wr.heap.size wr).alloc (Nat.le_refl _) (.cells #[.int .u8 (t.lit.toNat : Int), .int .i64 t.len, .int .i64 t.dist] 43)
      have TB := Lib.hid (tbox_new wr t)
      have K1 := Lib.hid (K.out.trans (KA.mono K.out.size))
      clear hx KA
      go_upto_region 4 with fail
      generalize wr.alloc (.cells #[.int .u8 (t.lit.toNat : Int), .int .i64 t.len, .int .i64 t.dist] 43) = W1 at TB K1 ⊢
      clear k0 k1 k2
      obtain ⟨c0, c1, c2⟩ := TB.out.at_
      have fz := TB.out.lt
      have C := Lib.hid (mright_any t TF.out W1)
      unfold tv at C
      go_wp2_with fail
      refine C.out.mono ?_
      rintro e w2 ⟨rfl, hb⟩
      have K2 := Lib.hid (K1.out.trans (hb.mono K1.out.size))
      clear hb C
      cases hr : t.right with
      | true =>
        have HA2 := Lib.hid (show (l.take (i + 1)).all Tk.right = true by rw [List.take_add_one, HXI.out, List.all_append, HA.out]; simpa using hr)
        clear hr
        go_wp2_with fail
        exact ⟨⟨i + 1, h1, rfl, HA2.out, K2.out⟩, next_less' h1⟩
      | false =>
        have HE := Lib.hid (show l.all Tk.right = false by
          rw [List.all_eq_false]
          exact ⟨t, List.mem_of_getElem? HXI.out, by simp [hr]⟩)
        clear hr
        go_wp2_with fail
        go_ret
        rw [HE.out]
        exact ⟨rfl, K2.out⟩
    · as_aux_lemma =>
      have hie : i = l.length := by omega
      subst hie
      have HE := HA.out
      rw [List.take_length] at HE
      have HE2 := Lib.hid HE
      clear HE
      go_wp2_with fail
      go_ret
      rw [HE2.out]
      exact ⟨rfl, K.out⟩
end Go.Proofs.Ytjbbhfloomejoaa
