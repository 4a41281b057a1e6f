/- The law's tokens: which of these may stand so, and what they stand for. Printed by mk_toks.py. -/
import Derived.Test.YtjbbhfloomejoaaTokE
import Derived.Test.YtjbbhfloomejoaaFxB
namespace Go.Proofs.Ytjbbhfloomejoaa
open Go.RowKit
theorem Tk.fix_fits {b : List UInt8} {t : Tk} (h : t.fits) : (Tk.fix b t).fits := by
  unfold Tk.fix
  split
  · exact h
  · exact ⟨⟨show (-9223372036854775808 : Int) ≤ 0 by decide, show (0 : Int) ≤ 9223372036854775807 by decide⟩, ⟨show (-9223372036854775808 : Int) ≤ 0 by decide, show (0 : Int) ≤ 9223372036854775807 by decide⟩⟩
theorem Tk.toks_fits {l : List Tk} (h : ∀ t ∈ l, t.fits) : ∀ i, i ≤ l.length → ∀ t ∈ Tk.toks (l.take i), t.fits
  | 0, _, t, ht => by simp [Tk.toks] at ht
  | i + 1, hi, t, ht => by
    have hx := List.getElem?_eq_getElem (show i < l.length by omega)
    rw [Tk.toks_next hx, List.mem_append] at ht
    rcases ht with ht | ht
    · exact Tk.toks_fits h i (by omega) t ht
    · rw [List.mem_singleton.1 ht]
      exact Tk.fix_fits (h _ (List.getElem_mem ..))
theorem brow_lower {w : World} {base b : Nat} {v : Value} {l : List UInt8} (h : BRow w base 5 v l) (hb : b ≤ base) : BRow w b 5 v l :=
  ⟨h.1, by
    rcases h.2 with h2 | ⟨g, cap, cur, e, h3, h4⟩
    · exact .inl h2
    · exact .inr ⟨g, cap, cur, e, Nat.le_trans hb h3, h4⟩⟩
set_option maxHeartbeats 8000000 in
set_option maxRecDepth 100000 in
theorem tokens_any (A : Option Addr) (c : Nat) (l : List Tk) (w : World) (h : Toks w A c l) (hl : ∀ t ∈ l, t.fits) (hn : l.length ≤ 40) :
    Calls Try.prog 7 #[.slice A l.length c] w fun e w' => ∃ u v, e = .returned (.tuple #[u, v]) ∧ TkRow w' w.heap.size u (Tk.toks l) ∧ BRow w' w.heap.size 5 v (Tk.exp (Tk.toks l)) ∧ Below w.heap.size w w' := by
  have HX := Lib.hid h
  have HL := Lib.hid hl
  clear h hl
  go_enter Try.func7, Try.ntmps7
  go_upto_region 4 with fail
  go_loopw [4, 5, 10] (fun s4 s5 s10 wr => ∃ i : Nat, i ≤ l.length ∧ s10 = .int .i64 (i : Nat) ∧ TkRow wr w.heap.size s4 (Tk.toks (l.take i)) ∧ BRow wr w.heap.size 5 s5 (Tk.exp (Tk.toks (l.take i))) ∧ Below w.heap.size w wr) (fun _ _ s10 _ => l.length - (intOf s10).toNat)
  case atStart => exact ⟨0, Nat.zero_le _, rfl, TkRow.nil _ _, BRow.nil _ _ _, Below.refl _ _⟩
  case round =>
    obtain ⟨i, hi, rfl, hT, hR, hK⟩ := hrel
    have HT := Lib.hid hT
    have HR := Lib.hid hR
    have K := Lib.hid hK
    by_cases h1 : i < l.length
    · as_aux_lemma =>
      obtain ⟨g, o, t, rfl, hgz, hx, k0, k1, k2⟩ := (HX.out.grow K.out).at_ h1
      have TF := Lib.hid (HL.out t (List.mem_of_getElem? hx))
      have TN := Lib.hid (Tk.toks_next hx)
      obtain ⟨hg1, hg2⟩ := Tk.toks_good l (i + 1) h1
      have HG := Lib.hid hg1
      have HFT := Lib.hid (Tk.toks_fits HL.out (i + 1) h1)
      have HLI := Lib.hid hg2
      have hbl := Tk.exp_len (Tk.toks (l.take i)) (Tk.good_right (Tk.toks_good l i hi).1)
      rw [(Tk.toks_good l i hi).2] at hbl
      obtain ⟨A1, c1, rfl, _⟩ := hR.at_
      obtain ⟨A2, c2, rfl, _⟩ := hT.reads
      have q1 : ¬ ((i : Int) < 0) := by omega
      have KA := (Below.refl wr.heap.size wr).alloc (Nat.le_refl _) (.cells #[.int .u8 (t.lit.toNat : Int), .int .i64 t.len, .int .i64 t.dist] 43)
      have TB := Lib.hid (tbox_new wr t)
      have K1 := Lib.hid (K.out.trans (KA.mono K.out.size))
      have HR1 := Lib.hid (HR.out.grow KA)
      have HT1 := Lib.hid (HT.out.grow KA)
      have hlt2 : (Tk.toks (l.take i)).length ≤ 40 := by rw [(Tk.toks_good l i hi).2]; omega
      have K0S := Lib.hid hK.size
      have NE0 := Lib.hid (fun e : some wr.heap.size = (Value.slice A2 (Tk.toks (l.take i)).length c2).ownBlock => Nat.lt_irrefl _ (World.ownsRow.lt HT.out _ e.symm).2)
      clear hx KA hR hT hK K HR HT hg1 hg2
      generalize hTS : Tk.toks (l.take i) = ts at *
      generalize hB : Tk.exp ts = B at *
      go_upto_region 6 with fail
      obtain ⟨X, HXE⟩ : ∃ X, Hid (X = wr.heap.size) := ⟨_, Lib.hid rfl⟩
      have hXw : w.heap.size ≤ X := by rw [HXE.out]; exact Nat.le_trans K0S.out (Nat.le_refl _)
      have HNE := Lib.hid (show some X ≠ (Value.slice A2 ts.length c2).ownBlock from by rw [HXE.out]; exact NE0.out)
      rw [← HXE.out] at TB ⊢
      generalize wr.alloc (.cells #[.int .u8 (t.lit.toNat : Int), .int .i64 t.len, .int .i64 t.dist] 43) = W1 at TB K1 HR1 HT1 ⊢
      clear k0 k1 k2
      have C := Lib.hid (rright_any t TF.out W1)
      unfold tv at C
      obtain ⟨c3, c4, c5⟩ := TB.out.at_
      have fz := TB.out.lt
      go_wp2_with fail
      refine C.out.mono ?_
      rintro e w2 ⟨rfl, hb⟩
      have K2 := Lib.hid (K1.out.trans (hb.mono K1.out.size))
      have TB2 := Lib.hid (TB.out.grow hb)
      have HR2 := Lib.hid (HR1.out.grow hb)
      have HT2 := Lib.hid (HT1.out.grow hb)
      clear hb C c3 c4 c5 fz K1 HR1 HT1
      obtain ⟨c3, c4, c5⟩ := TB2.out.at_
      have fz := TB2.out.lt
      have hdec : ∃ p q : Bool, t.right = p ∧ decide (t.dist > (B.length : Int)) = q := ⟨_, _, rfl, rfl⟩
      obtain ⟨p, q, hp, hq⟩ := hdec
      have f0 := (blk_facts TB2.out).2 0
      have f1 := (blk_facts TB2.out).2 1
      have f2 := (blk_facts TB2.out).2 2
      cases p with
      | true =>
        cases q with
        | false =>
          as_aux_lemma =>
          have hle : ¬ (t.dist > (B.length : Int)) := of_decide_eq_false hq
          have FX := Lib.hid (show ts ++ [t] = ts ++ [Tk.fix B t] by unfold Tk.fix; rw [if_pos ⟨hp, by omega⟩])
          have TB3 := Lib.hid TB2.out
          have HT3 := Lib.hid HT2.out
          have K3 := Lib.hid K2.out
          go_upto_region 8 with fail
          clear c3 c4 c5 fz f0 f1 f2 hle hq hp
          obtain ⟨c3, c4, c5⟩ := TB3.out.at_
          have fz := TB3.out.lt
          have kz := (Below.refl w2.heap.size w2).alloc (Nat.le_refl _) (.cells #[.int .u8 ((t).lit.toNat : Int), .int .i64 (t).len, .int .i64 (t).dist] 43)
          have KZ := Lib.hid kz
          clear kz
          go_wp2_with (at_builtin; refine wpList_appTk rfl _ _ rfl w.heap.size _ ts rfl (HT3.out.grow KZ.out) _ [t] rfl (src_tok (heap_alloc_new _ _) _) (by simp; omega) (Nat.le_trans K3.out.size KZ.out.size) ?_; intro v4 w4 hr4 hp4; rw [FX.out] at hr4; rw [← TN.out] at hr4; have K4 := Lib.hid ((K3.out.trans (KZ.out.mono K3.out.size)).trans (hp4.below (Nat.le_trans K3.out.size KZ.out.size) (fun k hk => (TkRow.base_le (HT3.out.grow KZ.out) hk)))); have HT4 := Lib.hid hr4; obtain ⟨A4, d4, e4, ht4, _⟩ := hr4.reads; subst e4; have C4 := Lib.hid (expand_any A4 d4 _ 100000 w4 ht4 HFT.out HG.out (by decide) (by rw [HLI.out]; omega)); clear hr4 hp4 ht4)
          refine C4.out.mono ?_
          rintro e w5 ⟨u5, rfl, hr5, hb5⟩
          have HR5 := Lib.hid (brow_lower hr5 K4.out.size)
          have HT5 := Lib.hid (HT4.out.grow hb5)
          have K5 := Lib.hid (K4.out.trans (hb5.mono K4.out.size))
          clear hr5 hb5 C4 c3 c4 c5 fz
          go_wp2_with fail
          exact ⟨⟨i + 1, h1, rfl, HT5.out, HR5.out, K5.out⟩, next_less' h1⟩
        | true =>
          as_aux_lemma =>
          have hle : t.dist > (B.length : Int) := of_decide_eq_true hq
          have FX := Lib.hid (show ts ++ [(⟨t.lit, 0, 0⟩ : Tk)] = ts ++ [Tk.fix B t] by unfold Tk.fix; rw [if_neg (by omega)])

          have B3 := set_at' (k := 2) (set_at' (k := 1) (set_at' (k := 0) TB2.out (.int .u8 (t.lit.toNat : Int))) (.int .i64 0)) (.int .i64 0)
          have TB3 := Lib.hid (show TBox (((w2.setCell ⟨X, 0, none⟩ (.int .u8 (t.lit.toNat : Int))).setCell ⟨X, 1, none⟩ (.int .i64 0)).setCell ⟨X, 2, none⟩ (.int .i64 0)) X ⟨t.lit, 0, 0⟩ from B3)
          have K3 := Lib.hid (((K2.out.setCell (p := ⟨X, 0, none⟩) hXw (.int .u8 (t.lit.toNat : Int))).setCell (p := ⟨X, 1, none⟩) hXw (.int .i64 0)).setCell (p := ⟨X, 2, none⟩) hXw (.int .i64 0))
          have HT3 := Lib.hid (show TkRow (((w2.setCell ⟨X, 0, none⟩ (.int .u8 (t.lit.toNat : Int))).setCell ⟨X, 1, none⟩ (.int .i64 0)).setCell ⟨X, 2, none⟩ (.int .i64 0)) w.heap.size (.slice A2 ts.length c2) ts from ((HT2.out.setBox TB2.out _ HNE.out).setBox (set_at' (k := 0) TB2.out _) _ HNE.out).setBox (set_at' (k := 1) (set_at' (k := 0) TB2.out _) _) _ HNE.out)
          clear B3
          go_upto_region 8 with fail
          clear c3 c4 c5 fz f0 f1 f2
          generalize (((w2.setCell ⟨X, 0, none⟩ (.int .u8 (t.lit.toNat : Int))).setCell ⟨X, 1, none⟩ (.int .i64 0)).setCell ⟨X, 2, none⟩ (.int .i64 0)) = W3 at TB3 K3 HT3 ⊢
          obtain ⟨c3, c4, c5⟩ := TB3.out.at_
          have fz := TB3.out.lt
          have kz := (Below.refl W3.heap.size W3).alloc (Nat.le_refl _) (.cells #[.int .u8 (((⟨t.lit, 0, 0⟩ : Tk)).lit.toNat : Int), .int .i64 ((⟨t.lit, 0, 0⟩ : Tk)).len, .int .i64 ((⟨t.lit, 0, 0⟩ : Tk)).dist] 43)
          have KZ := Lib.hid kz
          clear kz
          go_wp2_with (at_builtin; refine wpList_appTk rfl _ _ rfl w.heap.size _ ts rfl (HT3.out.grow KZ.out) _ [(⟨t.lit, 0, 0⟩ : Tk)] rfl (src_tok (heap_alloc_new _ _) _) (by simp; omega) (Nat.le_trans K3.out.size KZ.out.size) ?_; intro v4 w4 hr4 hp4; rw [FX.out] at hr4; rw [← TN.out] at hr4; have K4 := Lib.hid ((K3.out.trans (KZ.out.mono K3.out.size)).trans (hp4.below (Nat.le_trans K3.out.size KZ.out.size) (fun k hk => (TkRow.base_le (HT3.out.grow KZ.out) hk)))); have HT4 := Lib.hid hr4; obtain ⟨A4, d4, e4, ht4, _⟩ := hr4.reads; subst e4; have C4 := Lib.hid (expand_any A4 d4 _ 100000 w4 ht4 HFT.out HG.out (by decide) (by rw [HLI.out]; omega)); clear hr4 hp4 ht4)
          refine C4.out.mono ?_
          rintro e w5 ⟨u5, rfl, hr5, hb5⟩
          have HR5 := Lib.hid (brow_lower hr5 K4.out.size)
          have HT5 := Lib.hid (HT4.out.grow hb5)
          have K5 := Lib.hid (K4.out.trans (hb5.mono K4.out.size))
          clear hr5 hb5 C4 c3 c4 c5 fz
          go_wp2_with fail
          exact ⟨⟨i + 1, h1, rfl, HT5.out, HR5.out, K5.out⟩, next_less' h1⟩
      | false =>
        as_aux_lemma =>
        have FX := Lib.hid (show ts ++ [(⟨t.lit, 0, 0⟩ : Tk)] = ts ++ [Tk.fix B t] by unfold Tk.fix; rw [if_neg (fun h => by rw [hp] at h; cases h.1)])
        clear hq
        have B3 := set_at' (k := 2) (set_at' (k := 1) (set_at' (k := 0) TB2.out (.int .u8 (t.lit.toNat : Int))) (.int .i64 0)) (.int .i64 0)
        have TB3 := Lib.hid (show TBox (((w2.setCell ⟨X, 0, none⟩ (.int .u8 (t.lit.toNat : Int))).setCell ⟨X, 1, none⟩ (.int .i64 0)).setCell ⟨X, 2, none⟩ (.int .i64 0)) X ⟨t.lit, 0, 0⟩ from B3)
        have K3 := Lib.hid (((K2.out.setCell (p := ⟨X, 0, none⟩) hXw (.int .u8 (t.lit.toNat : Int))).setCell (p := ⟨X, 1, none⟩) hXw (.int .i64 0)).setCell (p := ⟨X, 2, none⟩) hXw (.int .i64 0))
        have HT3 := Lib.hid (show TkRow (((w2.setCell ⟨X, 0, none⟩ (.int .u8 (t.lit.toNat : Int))).setCell ⟨X, 1, none⟩ (.int .i64 0)).setCell ⟨X, 2, none⟩ (.int .i64 0)) w.heap.size (.slice A2 ts.length c2) ts from ((HT2.out.setBox TB2.out _ HNE.out).setBox (set_at' (k := 0) TB2.out _) _ HNE.out).setBox (set_at' (k := 1) (set_at' (k := 0) TB2.out _) _) _ HNE.out)
        clear B3
        go_upto_region 8 with fail
        clear c3 c4 c5 fz f0 f1 f2
        generalize (((w2.setCell ⟨X, 0, none⟩ (.int .u8 (t.lit.toNat : Int))).setCell ⟨X, 1, none⟩ (.int .i64 0)).setCell ⟨X, 2, none⟩ (.int .i64 0)) = W3 at TB3 K3 HT3 ⊢
        obtain ⟨c3, c4, c5⟩ := TB3.out.at_
        have fz := TB3.out.lt
        have kz := (Below.refl W3.heap.size W3).alloc (Nat.le_refl _) (.cells #[.int .u8 (((⟨t.lit, 0, 0⟩ : Tk)).lit.toNat : Int), .int .i64 ((⟨t.lit, 0, 0⟩ : Tk)).len, .int .i64 ((⟨t.lit, 0, 0⟩ : Tk)).dist] 43)
        have KZ := Lib.hid kz
        clear kz
        go_wp2_with (at_builtin; refine wpList_appTk rfl _ _ rfl w.heap.size _ ts rfl (HT3.out.grow KZ.out) _ [(⟨t.lit, 0, 0⟩ : Tk)] rfl (src_tok (heap_alloc_new _ _) _) (by simp; omega) (Nat.le_trans K3.out.size KZ.out.size) ?_; intro v4 w4 hr4 hp4; rw [FX.out] at hr4; rw [← TN.out] at hr4; have K4 := Lib.hid ((K3.out.trans (KZ.out.mono K3.out.size)).trans (hp4.below (Nat.le_trans K3.out.size KZ.out.size) (fun k hk => (TkRow.base_le (HT3.out.grow KZ.out) hk)))); have HT4 := Lib.hid hr4; obtain ⟨A4, d4, e4, ht4, _⟩ := hr4.reads; subst e4; have C4 := Lib.hid (expand_any A4 d4 _ 100000 w4 ht4 HFT.out HG.out (by decide) (by rw [HLI.out]; omega)); clear hr4 hp4 ht4)
        refine C4.out.mono ?_
        rintro e w5 ⟨u5, rfl, hr5, hb5⟩
        have HR5 := Lib.hid (brow_lower hr5 K4.out.size)
        have HT5 := Lib.hid (HT4.out.grow hb5)
        have K5 := Lib.hid (K4.out.trans (hb5.mono K4.out.size))
        clear hr5 hb5 C4 c3 c4 c5 fz
        go_wp2_with fail
        exact ⟨⟨i + 1, h1, rfl, HT5.out, HR5.out, K5.out⟩, next_less' h1⟩
    · as_aux_lemma =>
      have hie : i = l.length := by omega
      subst hie
      rw [List.take_length] at hT hR
      have HT2 := Lib.hid hT
      have HR2 := Lib.hid hR
      clear hT hR hK HT HR
      go_wp2_with fail
      go_ret2
      exact ⟨_, _, rfl, HT2.out, HR2.out, K.out⟩
end Go.Proofs.Ytjbbhfloomejoaa
