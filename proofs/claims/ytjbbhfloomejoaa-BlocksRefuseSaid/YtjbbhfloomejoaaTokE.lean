/- ref07.Expand, of tokens that may stand so. -/
import Derived.Test.YtjbbhfloomejoaaTokR
namespace Go.Proofs.Ytjbbhfloomejoaa
open Go.RowKit
theorem TkRow.setBox {w : World} {base X i : Nat} {u : Value} {l : List Tk} {cs : Array Value} {ty : TypeId} (h : TkRow w base u l) (_hX : w.heap[X]? = some (.cells cs ty (0, 0))) (v : Value) (hne : some X ≠ u.ownBlock) : TkRow (w.setCell ⟨X, i, none⟩ v) base u l := by
  have k : w.grownBy (w.setCell ⟨X, i, none⟩ v) (some X) := ⟨rfl, rfl, rfl, by simp [World.setCell], fun g _ hg => (by simp only [World.setCell, Array.getElem?_modify]; rw [if_neg (fun e => hg (by rw [e]))])⟩
  exact World.ownsRow.kept h k (by rcases hu : u.ownBlock with _ | g <;> simp_all <;> omega)
theorem Tk.right_len {t : Tk} (h : t.right = true) : 0 ≤ t.len ∧ t.len ≤ 258 ∧ (t.len ≠ 0 → 1 ≤ t.dist) ∧ 0 ≤ t.dist ∧ t.dist ≤ 32768 := by
  unfold Tk.right at h
  split at h
  · have := of_decide_eq_true h; omega
  · have := of_decide_eq_true h; omega
theorem BRow.get {w : World} {base : Nat} {A : Option Addr} {n c : Nat} {l : List UInt8} (h : BRow w base 5 (.slice A n c) l) {j : Nat} (hj : j < l.length) : ∃ g o, A = some ⟨g, o, none⟩ ∧ g < w.heap.size ∧ w.cell? ⟨g, o + j, none⟩ = some (.int .u8 ((l[j]?.getD 0).toNat : Int)) := by
  obtain ⟨A', c', e, ha⟩ := h.at_
  cases e
  obtain ⟨g, o, x, e1, e2, e3, e4⟩ := ha.at_ hj
  exact ⟨g, o, e1, e2, by rw [e3]; exact e4⟩
set_option maxHeartbeats 8000000 in
set_option maxRecDepth 100000 in
theorem expand_any (A : Option Addr) (c : Nat) (l : List Tk) (most : Nat) (w : World) (h : Toks w A c l) (hl : ∀ t ∈ l, t.fits) (hg : Tk.good l) (hm : most ≤ 16777216) (hn : 258 * l.length ≤ most) :
    Calls Try.prog 23 #[.slice A l.length c, .int .i64 (most : Nat)] w fun e w' => ∃ u, e = .returned (.tuple #[u, .int .i64 0]) ∧ BRow w' w.heap.size 5 u (Tk.exp l) ∧ Below w.heap.size w w' := by
  have HX := Lib.hid h
  have HL := Lib.hid hl
  have HG := Lib.hid hg
  have q1 : ¬ ((most : Int) < 0) := by omega
  have q2 : ¬ ((most : Int) > 16777216) := by omega
  clear h hl hg
  go_enter Try.func23, Try.ntmps23
  go_upto_region 5 with fail
  clear q1 q2
  go_loopw [6, 18] (fun s6 s18 wr => ∃ i : Nat, i ≤ l.length ∧ s18 = .int .i64 (i : Nat) ∧ BRow wr w.heap.size 5 s6 (Tk.exp (l.take i)) ∧ Below w.heap.size w wr) (fun _ s18 _ => l.length - (intOf s18).toNat)
  case atStart => exact ⟨0, Nat.zero_le _, rfl, BRow.nil _ _ _, Below.refl _ _⟩
  case round =>
    obtain ⟨i, hi, rfl, hR, hK⟩ := hrel
    have HR := Lib.hid hR
    have K := Lib.hid hK
    by_cases h1 : i < l.length
    · as_aux_lemma =>
      obtain ⟨g, o, t, rfl, hgz, hx, k0, k1, k2⟩ := (HX.out.grow K.out).at_ h1
      have TF := Lib.hid (HL.out t (List.mem_of_getElem? hx))
      obtain ⟨ok1, ok2⟩ := HG.out i t hx
      have EN := Lib.hid (Tk.exp_next hx)
      have OB := Lib.hid (Tk.exp_len (l.take i) (fun t ht => Tk.good_right HG.out t (List.mem_of_mem_take ht)))
      obtain ⟨A1, c1, rfl, _⟩ := hR.at_
      have q1 : ¬ ((i : Int) < 0) := by omega
      have KA := (Below.refl wr.heap.size wr).alloc (Nat.le_refl _) (.cells #[.int .u8 (t.lit.toNat : Int), .int .i64 t.len, .int .i64 t.dist] 43)
      have TB := Lib.hid (tbox_new wr t)
      have K1 := Lib.hid (K.out.trans (KA.mono K.out.size))
      have HR1 := Lib.hid (HR.out.grow KA)
      obtain ⟨r1, r2, r3, r4, r5⟩ := Tk.right_len ok1
      have hob := OB.out
      rw [List.length_take, Nat.min_eq_left hi] at hob
      generalize hB : Tk.exp (l.take i) = B at *
      have OK1 := Lib.hid ok1
      clear hx KA hR hK K HR OB hB ok1
      go_upto_region 7 with fail
      obtain ⟨X, HXE⟩ : ∃ X, Hid (X = wr.heap.size) := ⟨_, Lib.hid rfl⟩
      rw [← HXE.out] at TB ⊢
      generalize wr.alloc (.cells #[.int .u8 (t.lit.toNat : Int), .int .i64 t.len, .int .i64 t.dist] 43) = W1 at TB K1 HR1 ⊢
      clear k0 k1 k2
      have C := Lib.hid (rright_any t TF.out W1)
      rw [OK1.out] at C
      unfold tv at C
      obtain ⟨c0, c2, c3⟩ := TB.out.at_
      have fz := TB.out.lt
      go_wp2_with fail
      refine C.out.mono ?_
      rintro e w2 ⟨rfl, hb⟩
      have K2 := Lib.hid (K1.out.trans (hb.mono K1.out.size))
      have TB2 := Lib.hid (TB.out.grow hb)
      have HR2 := Lib.hid (HR1.out.grow hb)
      clear hb C c0 c2 c3 fz K1 HR1
      obtain ⟨c0, c2, c3⟩ := TB2.out.at_
      have fz := TB2.out.lt
      have g1 : ¬ (t.dist > (B.length : Int)) := by omega
      have g2 : (B.length : Int) ≤ 258 * (i : Int) := by omega
      have kz := Lib.hid (fun z : Int => (Below.refl w2.heap.size w2).alloc (Nat.le_refl _) (.cells #[.int .u8 z] 5))
      by_cases h0 : t.len = 0
      · as_aux_lemma =>
        have PL := Lib.hid (show Tk.put B t = B ++ [t.lit] by unfold Tk.put; rw [if_pos h0])
        have g3 : ¬ ((1 : Int) > (most : Int) - (B.length : Int)) := by omega
        have HBN := Lib.hid (show B.length ≤ 16777216 by omega)
        go_wp2_with (at_builtin; refine wpList_appBy rfl _ _ _ rfl w.heap.size _ B [t.lit] rfl (HR2.out.grow (kz.out _)) _ rfl (src_byte (heap_alloc_new _ _) _ rfl) (by have := HBN.out; simp; omega) (Nat.le_trans K2.out.size (kz.out _).size) ?_; intro v3 w3 hr3 hp3)
        have K3 := Lib.hid ((K2.out.trans ((kz.out (t.lit.toNat : Int)).mono K2.out.size)).trans (hp3.below (Nat.le_trans K2.out.size (kz.out (t.lit.toNat : Int)).size) (fun k hk => (World.ownsRow.lt HR2.out k hk).1)))
        have TB3 := Lib.hid (show TBox w3 X t from (hp3.1.block X (Nat.lt_of_lt_of_le TB2.out.lt (kz.out (t.lit.toNat : Int)).size) (own_ne (HR2.out.grow (kz.out (t.lit.toNat : Int))) (TB2.out.grow (kz.out (t.lit.toNat : Int))) (by decide))).trans (TB2.out.grow (kz.out (t.lit.toNat : Int))))
        have HR3 := Lib.hid hr3
        clear hr3 hp3 c0 c2 c3 fz g1 g2 g3 kz HR2 TB2 K2
        go_upto_region 16 with fail
        go_loopw [6, 9] (fun s6 s9 wr => s6 = v3 ∧ s9 = .int .i64 (0 : Nat) ∧ wr = w3) (fun _ _ _ => 0)
        case atStart => exact ⟨rfl, rfl, rfl⟩
        case round =>
          obtain ⟨rfl, rfl, rfl⟩ := hrel
          obtain ⟨_, c2, _⟩ := TB3.out.at_
          have fz := TB3.out.lt
          have p9 : ¬ ((0 : Int) < t.len) := by omega
          go_wp2_with fail
          refine ⟨⟨i + 1, h1, rfl, ?_, K3.out⟩, next_less' h1⟩
          rw [EN.out, PL.out]
          exact HR3.out
      · as_aux_lemma =>
        obtain ⟨n, hn2⟩ : ∃ n : Nat, t.len = (n : Int) := ⟨t.len.toNat, by omega⟩
        obtain ⟨d, hd2⟩ : ∃ d : Nat, t.dist = (d : Int) := ⟨t.dist.toNat, by omega⟩
        have PL := Lib.hid (show Tk.put B t = Tk.copy B d n by unfold Tk.put; rw [if_neg h0, hn2, hd2]; rfl)
        rw [hn2] at c2 r1 r2 r3 h0
        rw [hd2] at c3 r3 r4 r5 ok2 g1
        have D1 := r3 h0
        have z1 : ((n : Int) == 0) = false := beq_eq_false_iff_ne.2 h0
        have z2 : ¬ ((n : Int) < 1) := by omega
        have z3 : ¬ ((n : Int) > (most : Int) - (B.length : Int)) := by omega
        have z4 : decide ((most : Int) - (B.length : Int) < (n : Int)) = false := decide_eq_false (by omega)
        have z5 : decide (B.length < d) = false := decide_eq_false (by omega)
        have z6 : decide ((B.length : Int) < (d : Int)) = false := decide_eq_false (by omega)
        have HBN := Lib.hid (show B.length ≤ 16777216 by omega)
        have HN2 := Lib.hid hn2
        have HD2 := Lib.hid hd2
        clear hn2 hd2
        go_upto_region 16 with fail
        clear c0 c2 c3 fz z1 z2 z3 g1 g2 kz
        go_loopw [6, 9] (fun s6 s9 wr => ∃ k : Nat, k ≤ n ∧ s9 = .int .i64 (k : Nat) ∧ BRow wr w.heap.size 5 s6 (Tk.copy B d k) ∧ TBox wr X t ∧ Below w.heap.size w wr) (fun _ s9 _ => n - (intOf s9).toNat)
        case atStart => exact ⟨0, Nat.zero_le _, rfl, HR2.out, TB2.out, K2.out⟩
        case round =>
          obtain ⟨k, hk, rfl, hR, hT, hK⟩ := hrel
          have HR3 := Lib.hid hR
          have TB3 := Lib.hid hT
          have K3 := Lib.hid hK
          obtain ⟨_, c2, c3⟩ := hT.at_
          rw [HN2.out] at c2
          rw [HD2.out] at c3
          have fz := hT.lt
          clear HR2 TB2 K2 hT hK
          by_cases h2 : k < n
          · as_aux_lemma =>
            obtain ⟨A3, c4, rfl, _⟩ := hR.at_
            have hcl := Tk.copy_len B d k
            obtain ⟨g3, o3, rfl, gz3, e3⟩ := hR.get (j := B.length + k - d) (by rw [hcl]; omega)
            have HE := Lib.hid (show Tk.copy B d (k + 1) = Tk.copy B d k ++ [(Tk.copy B d k)[B.length + k - d]?.getD 0] by
              conv => lhs; unfold Tk.copy
              rw [hcl])
            generalize (Tk.copy B d k)[B.length + k - d]?.getD 0 = y at e3 HE
            have ix1 : ((B.length : Int) + (k : Int) - (d : Int)) = ((B.length + k - d : Nat) : Int) := by omega
            have ix2 : B.length + k - d < B.length + k := by omega
            have IX := Lib.hid ix1
            have HCL := Lib.hid hcl
            have hll : (Tk.copy B d k).length ≤ 100000000 := by rw [hcl]; omega
            have HLL := Lib.hid hll
            have kz := Lib.hid (fun z : Int => (Below.refl wr.heap.size wr).alloc (Nat.le_refl _) (.cells #[.int .u8 z] 5))
            have i3 : ((k : Int) < (n : Int)) := by omega
            obtain ⟨q, HQ⟩ : ∃ q : Nat, Hid (q = B.length + k) := ⟨_, Lib.hid rfl⟩
            have hq1 : (Tk.copy B d k).length = q := by rw [hcl, HQ.out]
            have hq2 : ((q : Int) - (d : Int)) = ((q - d : Nat) : Int) := by rw [HQ.out]; omega
            have hq3 : q - d < q := by rw [HQ.out]; omega
            have hq5 : q ≤ 100000000 := by rw [HQ.out]; omega
            have hq6 : q - d ≤ 100000000 := by omega
            have hq4 : B.length + k - d = q - d := by rw [HQ.out]
            rw [hq4] at e3
            rw [hq1]
            have HRQ := Lib.hid (show BRow wr w.heap.size 5 (.slice (some ⟨g3, o3, none⟩) q c4) (Tk.copy B d k) from hq1 ▸ HR3.out)
            clear hR hcl ix1 ix2 hll hq1 hq4
            go_wp2_with (at_builtin; refine wpList_appBy rfl _ _ _ rfl w.heap.size _ (Tk.copy B d k) [y] rfl (HRQ.out.grow (kz.out _)) _ rfl (src_byte (heap_alloc_new _ _) _ rfl) (by have := HLL.out; simp; omega) (Nat.le_trans K3.out.size (kz.out _).size) ?_; intro v4 w4 hr4 hp4)
            have kb := kz.out (y.toNat : Int)
            have hTB := TB3.out.grow kb
            have hRR := HRQ.out.grow kb
            have TB4 := Lib.hid (show TBox w4 X t from (hp4.1.block X hTB.lt (own_ne hRR hTB (by decide))).trans hTB)
            have K4 := Lib.hid ((K3.out.trans (kb.mono K3.out.size)).trans (hp4.below (Nat.le_trans K3.out.size kb.size) (fun k hk => (World.ownsRow.lt hRR k hk).1)))
            have HR4 := Lib.hid hr4
            clear hr4 hp4 kb hTB hRR HRQ HR3 TB3 K3
            refine ⟨⟨k + 1, h2, rfl, ?_, TB4.out, K4.out⟩, next_less' h2⟩
            rw [HE.out]
            exact HR4.out
          · as_aux_lemma =>
            have hke : k = n := by omega
            subst hke
            have i3 : ¬ ((k : Int) < (k : Int)) := by omega
            clear hR
            go_wp2_with fail
            refine ⟨⟨i + 1, h1, rfl, ?_, K3.out⟩, next_less' h1⟩
            rw [EN.out, PL.out]
            exact HR3.out
    · as_aux_lemma =>
      have hie : i = l.length := by omega
      subst hie
      have HR2 := HR.out
      rw [List.take_length] at HR2
      have HR3 := Lib.hid HR2
      clear hR HR HR2
      go_wp2_with fail
      go_ret2
      exact ⟨_, rfl, HR3.out, K.out⟩
end Go.Proofs.Ytjbbhfloomejoaa
