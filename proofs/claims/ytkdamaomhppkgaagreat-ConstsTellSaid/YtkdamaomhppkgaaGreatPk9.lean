/- Joined texts: BhG, CurD, BdA, BdB, BdC, BdD, BdE, CbB, CbC. -/
import Derived.Test.YtkdamaomhppkgaaGreatPk8
import Derived.Test.YtkdamaomhppkgaaGreatPk4
import Derived.Test.YtkdamaomhppkgaaGreatPk7
import Derived.Test.YtkdamaomhppkgaaGreatPk6
/- The walk of layer 24: a row that is read, where there is no error yet. -/
namespace Go.Proofs.YtkdamaomhppkgaaGreat
open Go.RowKit

section
variable {x : World} {b : Nat} {A : Option Addr} {cc : Nat} {l : List UInt8} {n : Nat}
/-- Where reading stands. -/
def RdSt (c : Cod) (l : List UInt8) (n k : Nat) (vs : List Int) (last : Int) (m : Nat) (e : Int) : Prop :=
  (e = 0 ∧ vs.length ≤ k ∧ n + vs.length ≤ m ∧ pre vs (c.read (k - vs.length) last (l.drop m)) = c.read k 0 (l.drop n)) ∨ (e ≠ 0 ∧ c.read k 0 (l.drop n) = .error e)
theorem RdSt.step_ok {c : Cod} {l : List UInt8} {n k : Nat} {vs : List Int} {last : Int} {m m' : Nat} {v : Int} (h : RdSt c l n k vs last m 0) (hk : vs.length < k) (hm : m ≤ l.length) (hm' : m' ≤ l.length) (hg : c.get (l.drop m) = .ok (v, l.drop m')) (hb : boundI c.s v = true) : RdSt c l n k (vs ++ [c.sum last v]) (c.sum last v) m' 0 := by
  rcases h with ⟨_, h1, h2, h3⟩ | ⟨h1, _⟩
  · obtain ⟨j, j1, j2, j3⟩ := Cod.get_moves hg
    have hmv := drop_moves hm' hm j2 j3
    refine .inl ⟨rfl, by simp; omega, by simp; omega, ?_⟩
    rw [← h3, show k - vs.length = (k - (vs ++ [c.sum last v]).length) + 1 from by simp; omega, c.read_ok _ last hg hb, pre_pre]
  · exact absurd rfl h1
theorem RdSt.step_out {c : Cod} {l : List UInt8} {n k : Nat} {vs ws : List Int} {last last' : Int} {m m' : Nat} {v : Int} {r : List UInt8} (h : RdSt c l n k vs last m 0) (hk : vs.length < k) (hg : c.get (l.drop m) = .ok (v, r)) (hb : boundI c.s v = false) : RdSt c l n k ws last' m' 5 := by
  rcases h with ⟨_, h1, h2, h3⟩ | ⟨h1, _⟩
  · refine .inr ⟨by decide, ?_⟩
    rw [← h3, show k - vs.length = (k - vs.length - 1) + 1 from by omega, c.read_out _ last hg hb]; rfl
  · exact absurd rfl h1
theorem RdSt.step_bad {c : Cod} {l : List UInt8} {n k : Nat} {vs ws : List Int} {last last' : Int} {m m' : Nat} {e : Int} (h : RdSt c l n k vs last m 0) (hk : vs.length < k) (hg : c.get (l.drop m) = .error e) (he : e ≠ 0) : RdSt c l n k ws last' m' e := by
  rcases h with ⟨_, h1, h2, h3⟩ | ⟨h1, _⟩
  · refine .inr ⟨he, ?_⟩
    rw [← h3, show k - vs.length = (k - vs.length - 1) + 1 from by omega, c.read_bad _ last hg]; rfl
  · exact absurd rfl h1
theorem RdSt.done {c : Cod} {l : List UInt8} {n k : Nat} {vs : List Int} {last : Int} {m : Nat} (h : RdSt c l n k vs last m 0) (hk : ¬ vs.length < k) : c.read k 0 (l.drop n) = .ok (vs, l.drop m) := by
  rcases h with ⟨_, h1, h2, h3⟩ | ⟨h1, _⟩
  · rw [← h3, show k - vs.length = 0 from by omega]
    show Except.ok (vs ++ [], l.drop m) = _
    rw [List.append_nil]
  · exact absurd rfl h1
theorem RdSt.bad {c : Cod} {l : List UInt8} {n k : Nat} {vs : List Int} {last : Int} {m : Nat} {e : Int} (h : RdSt c l n k vs last m e) (he : e ≠ 0) : c.read k 0 (l.drop n) = .error e := by
  rcases h with ⟨h1, _⟩ | ⟨_, h1⟩
  · exact absurd h1 he
  · exact h1
set_option maxHeartbeats 8000000 in
set_option maxRecDepth 100000 in
theorem readrow_any (c : Cod) (hc : c.ok) (h : CurS x b A cc l n 0) (k : Nat) (hk : k ≤ 9223372036854775807) :
    Calls Tryz.prog 85 #[.pointer (some ⟨b, 0, none⟩), c.val, .int .i64 k] x fun ex y => ∃ (u : Value) (vs : List Int) (m : Nat) (e : Int), ex = .returned u ∧ IRow y x.heap.size u vs ∧ CurS y b A cc l m e ∧ Outc (c.read k 0 (l.drop n)) [] vs e (l.drop m) ∧ x.grownBy y (some b) := by
  have H0 := Lib.hid h
  have hbl := h.lt
  have hls := h.small
  have HC := Lib.hid hc
  have HRt := Lib.hid (fun w => right_any c hc w)
  have HBd := Lib.hid (fun v hv w => bound_any c hc v hv w)
  have HRd := Lib.hid (fun v hv w => round_any c hc v hv w)
  have HGt := Lib.hid (fun x n (h : CurS x b A cc l n 0) => get_any c hc h)
  unfold Cod.val at *
  clear h hc
  have p0 : decide ((k : Int) < 0) = false := decide_eq_false (by omega)
  go_enter Tryz.func85, Tryz.ntmps85
  go_wp2_with fail
  refine (HRt.out _).mono ?_
  rintro ex y ⟨rfl, hb1⟩
  have hbx : CBox y x.heap.size c := (hb1.block x.heap.size (by simp)).trans (heap_alloc_new x _)
  have hx1 := Below.after' ((Below.refl x.heap.size x).alloc (Nat.le_refl _) _) hb1 (by simp)
  have HCU := Lib.hid (H0.out.grow hx1)
  have HG := Lib.hid (grownBy_below hx1 (some b))
  have HBX := Lib.hid hbx
  clear hb1 hbx hx1
  go_wp2_with fail
  go_loopw [7, 8] (fun s t wr => ∃ (vs : List Int) (last : Int) (m : Nat) (e : Int), t = .int .i64 last ∧ -8589934592 ≤ last ∧ last ≤ 8589934592 ∧ vs.length ≤ k ∧ vs.length ≤ 1000001 ∧ IRow wr x.heap.size s vs ∧ CurS wr b A cc l m e ∧ x.grownBy wr (some b) ∧ CBox wr x.heap.size c ∧ RdSt c l n k vs last m e) (fun s _ _ => k + 2 - sliceLen s)
  case atStart => exact ⟨[], 0, n, 0, rfl, by omega, by omega, by simp, by simp, IRow.nil _ _, HCU.out, HG.out, HBX.out, .inl ⟨rfl, by simp, by simp, by rw [pre_nil]; rfl⟩⟩
  case round =>
    clear HCU HG HBX
    obtain ⟨vs, last, m, e, rfl, hl1, hl2, hvk, hvl, hrow, hcur, hg, hbx, hst⟩ := hrel
    obtain ⟨Av, cv, rfl, _⟩ := hrow.reads
    have HR := Lib.hid hrow
    have HCU := Lib.hid hcur
    have HG := Lib.hid hg
    have HBX := Lib.hid hbx
    have HST := Lib.hid hst
    have HE := Lib.hid (cerr_any hcur)
    have hml := hcur.le
    clear hrow hcur hg
    by_cases he : e = 0
    · subst he
      by_cases hlt : vs.length < k
      · have q1 : decide ((vs.length : Int) < (k : Int)) = true := decide_eq_true (by omega)
        have hvl2 : vs.length ≤ 1000000 := by
          rcases HST.out with ⟨_, _, h2, _⟩ | ⟨h1, _⟩
          · omega
          · exact absurd rfl h1
        have d0 := (blk_facts hbx).1 0
        have d1 := (blk_facts hbx).1 1
        have d2 := (blk_facts hbx).1 2
        have d3 := (blk_facts hbx).1 3
        have hz := (Array.getElem?_eq_some_iff.1 hbx).1
        clear hbx hst
        go_wp2_with fail
        refine HE.out.mono ?_
        rintro ex z ⟨rfl, ez⟩
        have ez := ez.symm
        subst ez
        clear HE
        go_wp2_with fail
        refine (HGt.out _ _ HCU.out).mono ?_
        rintro ex z ⟨v, m', e', rfl, hc1, ho, hg1⟩
        have hm' := hc1.le
        have HR1 := Lib.hid (irow_kept HR.out hg1 HCU.out.box (by decide))
        have hbx1 := HBX.out.kept hg1 (by intro e; injection e with e; omega)
        have HBX1 := Lib.hid hbx1
        have HG1 := Lib.hid (grownBy_trans HG.out hg1 (.inl rfl))
        have HC1 := Lib.hid hc1
        clear d0 d1 d2 d3 hz hg1 HR HBX HG HCU hc1
        have d0 := (blk_facts hbx1).1 0
        have d1 := (blk_facts hbx1).1 1
        have d2 := (blk_facts hbx1).1 2
        have d3 := (blk_facts hbx1).1 3
        have hz := (Array.getElem?_eq_some_iff.1 hbx1).1
        clear hbx1
        -- what is told, and whether it is in bounds
        have hkey : (∃ bo : Bool, boundI c.s v = bo ∧ I64 v ∧ -8589934592 ≤ v ∧ v ≤ 8589934592 ∧ ((bo = true ∧ RdSt c l n k (vs ++ [c.sum last v]) (c.sum last v) m' e') ∨ (bo = false ∧ e' = 0 ∧ ∀ ws last', RdSt c l n k ws last' m' 5))) := by
          cases hgt : c.get (l.drop m) with
          | error e2 =>
            rw [hgt] at ho
            obtain ⟨rfl, h1, rfl⟩ := ho
            exact ⟨true, boundI_zero _, by unfold I64; omega, by omega, by omega, .inl ⟨rfl, HST.out.step_bad hlt hgt h1⟩⟩
          | ok p =>
            obtain ⟨v2, r2⟩ := p
            rw [hgt] at ho
            obtain ⟨rfl, rfl, h3⟩ := ho
            dsimp only at *
            subst h3
            have hin := c.get_in HC.out hgt
            dsimp only at hin
            cases hbd : boundI c.s v with
            | true => exact ⟨true, rfl, by unfold I64; omega, hin.1, hin.2, .inl ⟨rfl, HST.out.step_ok hlt hml hm' hgt hbd⟩⟩
            | false => exact ⟨false, rfl, by unfold I64; omega, hin.1, hin.2, .inr ⟨rfl, rfl, fun ws last' => HST.out.step_out hlt hgt hbd⟩⟩
        obtain ⟨bo, hbo, hv, hv1, hv2, hcase⟩ := hkey
        have HCASE := Lib.hid hcase
        have HBO := Lib.hid hbo
        have HV := Lib.hid hv
        clear ho hcase hbo
        go_wp2_with fail
        refine (HBd.out v hv _).mono ?_
        rintro ex z1 ⟨rfl, hb2⟩
        rw [HBO.out]
        have HR2 := Lib.hid (HR1.out.grow hb2)
        have hbx2 := HBX1.out.grow hb2
        have HBX2 := Lib.hid hbx2
        have HG2 := Lib.hid (grownBy_trans HG1.out (grownBy_below hb2 none) (.inr fun g e => by cases e))
        have HC2 := Lib.hid (HC1.out.grow hb2)
        clear d0 d1 d2 d3 hz hb2 HR1 HBX1 HG1 HC1 hv
        have d0 := (blk_facts hbx2).1 0
        have d1 := (blk_facts hbx2).1 1
        have d2 := (blk_facts hbx2).1 2
        have d3 := (blk_facts hbx2).1 3
        have hz := (Array.getElem?_eq_some_iff.1 hbx2).1
        clear hbx2
        cases bo with
        | true =>
          obtain ⟨q5, hst2⟩ : True ∧ RdSt c l n k (vs ++ [c.sum last v]) (c.sum last v) m' e' := by
            rcases HCASE.out with ⟨_, h⟩ | ⟨h, _⟩
            · exact ⟨trivial, h⟩
            · cases h
          have HS2 := Lib.hid hst2
          have HR3 := HR2
          have HBX3 := HBX2
          have HG3 := HG2
          have HC3 := HC2
          clear hst2 q5 HCASE HR2 HBX2 HG2 HC2
          by_cases hd : c.d = 1
          · have q : ((c.d : Int) == 1) = true := by simp; omega
            have hsum := Lib.hid (show c.sum last v = roundI c.s (last + v) by unfold Cod.sum; rw [if_pos hd])
            have hri := roundI_in c.s (last + v)
            have hsb : I64 (last + v) := by unfold I64; omega
            clear hd
            go_wp2_with fail
            refine (HRd.out (last + v) hsb _).mono ?_
            rintro ex z4 ⟨rfl, hb4⟩
            have HR4 := Lib.hid (HR3.out.grow hb4)
            have HBX4 := Lib.hid (HBX3.out.grow hb4)
            have HG4 := Lib.hid (grownBy_trans HG3.out (grownBy_below hb4 none) (.inr fun g e => by cases e))
            have HC4 := Lib.hid (HC3.out.grow hb4)
            clear d0 d1 d2 d3 hz hb4 HR3 HBX3 HG3 HC3 hsb q
            generalize hw : roundI c.s (last + v) = w1 at *
            have hw9 := hsum
            clear hw hsum
            have k1 := Lib.hid (fun (o : Obj) => (Below.refl z4.heap.size z4).alloc (Nat.le_refl _) o)
            have hzs : x.heap.size ≤ z4.heap.size := HG4.out.size
            go_wp2_with (at_builtin; refine Pp.wpList_app1 rfl _ _ rfl x.heap.size _ vs rfl (HR4.out.grow (k1.out _)) z4.heap.size w1 _ _ rfl (heap_alloc_new _ _) (by omega) (Nat.le_trans hzs (k1.out _).size) ?_; intro v5 z5 hr5 hp5; have HR5 := Lib.hid hr5; have HBX5 := Lib.hid (ibox_hop (HR4.out.grow (k1.out _)) hp5 (HBX4.out.grow (k1.out _)) (by decide)); have HC5 := Lib.hid (H0.out.hop (HC4.out.grow (k1.out _)) hp5.1 (fun g e => (HR4.out.base_le e))); have HG5 := Lib.hid (grownBy_trans (grownBy_trans HG4.out (grownBy_below (k1.out _) none) (.inr fun g e => by cases e)) hp5.1 (.inr fun g e => HR4.out.base_le e)); clear hr5 hp5)
            obtain ⟨A5, c5, rfl, _⟩ := HR5.out.reads
            go_roundw
            case rel => exact ⟨vs ++ [w1], w1, m', e', rfl, by omega, by omega, by simp; omega, by simp; omega, HR5.out, HC5.out, HG5.out, HBX5.out, hw9.out ▸ HS2.out⟩
            case measure => simp [sliceLen]; omega
          · have q : ((c.d : Int) == 1) = false := by simp; omega
            have hw9 := Lib.hid (show c.sum last v = v by unfold Cod.sum; rw [if_neg hd])
            have HR4 := HR3
            have HBX4 := HBX3
            have HG4 := HG3
            have HC4 := HC3
            clear hd HR3 HBX3 HG3 HC3
            have k1 := Lib.hid (fun (o : Obj) => (Below.refl z1.heap.size z1).alloc (Nat.le_refl _) o)
            have hzs : x.heap.size ≤ z1.heap.size := HG4.out.size
            go_wp2_with (at_builtin; refine Pp.wpList_app1 rfl _ _ rfl x.heap.size _ vs rfl (HR4.out.grow (k1.out _)) z1.heap.size v _ _ rfl (heap_alloc_new _ _) (by omega) (Nat.le_trans hzs (k1.out _).size) ?_; intro v5 z5 hr5 hp5; have HR5 := Lib.hid hr5; have HBX5 := Lib.hid (ibox_hop (HR4.out.grow (k1.out _)) hp5 (HBX4.out.grow (k1.out _)) (by decide)); have HC5 := Lib.hid (H0.out.hop (HC4.out.grow (k1.out _)) hp5.1 (fun g e => (HR4.out.base_le e))); have HG5 := Lib.hid (grownBy_trans (grownBy_trans HG4.out (grownBy_below (k1.out _) none) (.inr fun g e => by cases e)) hp5.1 (.inr fun g e => HR4.out.base_le e)); clear hr5 hp5)
            obtain ⟨A5, c5, rfl, _⟩ := HR5.out.reads
            go_roundw
            case rel => exact ⟨vs ++ [v], v, m', e', rfl, by omega, by omega, by simp; omega, by simp; omega, HR5.out, HC5.out, HG5.out, HBX5.out, hw9.out ▸ HS2.out⟩
            case measure => simp [sliceLen]; omega
        | false =>
          obtain ⟨q5, hst2⟩ : e' = 0 ∧ ∀ ws last', RdSt c l n k ws last' m' 5 := by
            rcases HCASE.out with ⟨h, _⟩ | ⟨_, h⟩
            · cases h
            · exact h
          subst q5
          have HS2 := Lib.hid hst2
          have HFl := Lib.hid (cfail_any 5 HC2.out)
          clear hst2 HCASE
          go_wp2_with fail
          refine HFl.out.mono ?_
          rintro ex z2 ⟨rfl, hc3, hg3⟩
          have e9 : fe 0 5 = 5 := rfl
          rw [e9] at hc3
          have HR3 := Lib.hid (irow_kept HR2.out hg3 HC2.out.box (by decide))
          have hbx3 := HBX2.out.kept hg3 (by intro e; injection e with e; omega)
          have HBX3 := Lib.hid hbx3
          have HG3 := Lib.hid (grownBy_trans HG2.out hg3 (.inl rfl))
          have HC3 := Lib.hid hc3
          clear d0 d1 d2 d3 hz hg3 hc3 HR2 HBX2 HG2 HC2 HFl e9
          have d0 := (blk_facts hbx3).1 0
          have d1 := (blk_facts hbx3).1 1
          have d2 := (blk_facts hbx3).1 2
          have d3 := (blk_facts hbx3).1 3
          have hz := (Array.getElem?_eq_some_iff.1 hbx3).1
          clear hbx3
          by_cases hd : c.d = 1
          · have q : ((c.d : Int) == 1) = true := by simp; omega
            have hsum := Lib.hid (show c.sum last v = roundI c.s (last + v) by unfold Cod.sum; rw [if_pos hd])
            have hri := roundI_in c.s (last + v)
            have hsb : I64 (last + v) := by unfold I64; omega
            clear hd
            go_wp2_with fail
            refine (HRd.out (last + v) hsb _).mono ?_
            rintro ex z4 ⟨rfl, hb4⟩
            have HR4 := Lib.hid (HR3.out.grow hb4)
            have HBX4 := Lib.hid (HBX3.out.grow hb4)
            have HG4 := Lib.hid (grownBy_trans HG3.out (grownBy_below hb4 none) (.inr fun g e => by cases e))
            have HC4 := Lib.hid (HC3.out.grow hb4)
            clear d0 d1 d2 d3 hz hb4 HR3 HBX3 HG3 HC3 hsb q
            generalize hw : roundI c.s (last + v) = w1 at *
            have hw9 := hsum
            clear hw hsum
            have k1 := Lib.hid (fun (o : Obj) => (Below.refl z4.heap.size z4).alloc (Nat.le_refl _) o)
            have hzs : x.heap.size ≤ z4.heap.size := HG4.out.size
            go_wp2_with (at_builtin; refine Pp.wpList_app1 rfl _ _ rfl x.heap.size _ vs rfl (HR4.out.grow (k1.out _)) z4.heap.size w1 _ _ rfl (heap_alloc_new _ _) (by omega) (Nat.le_trans hzs (k1.out _).size) ?_; intro v5 z5 hr5 hp5; have HR5 := Lib.hid hr5; have HBX5 := Lib.hid (ibox_hop (HR4.out.grow (k1.out _)) hp5 (HBX4.out.grow (k1.out _)) (by decide)); have HC5 := Lib.hid (H0.out.hop (HC4.out.grow (k1.out _)) hp5.1 (fun g e => (HR4.out.base_le e))); have HG5 := Lib.hid (grownBy_trans (grownBy_trans HG4.out (grownBy_below (k1.out _) none) (.inr fun g e => by cases e)) hp5.1 (.inr fun g e => HR4.out.base_le e)); clear hr5 hp5)
            obtain ⟨A5, c5, rfl, _⟩ := HR5.out.reads
            go_roundw
            case rel => exact ⟨vs ++ [w1], w1, m', 5, rfl, by omega, by omega, by simp; omega, by simp; omega, HR5.out, HC5.out, HG5.out, HBX5.out, HS2.out _ _⟩
            case measure => simp [sliceLen]; omega
          · have q : ((c.d : Int) == 1) = false := by simp; omega
            have hw9 := Lib.hid (show c.sum last v = v by unfold Cod.sum; rw [if_neg hd])
            have HR4 := HR3
            have HBX4 := HBX3
            have HG4 := HG3
            have HC4 := HC3
            clear hd HR3 HBX3 HG3 HC3
            have k1 := Lib.hid (fun (o : Obj) => (Below.refl z2.heap.size z2).alloc (Nat.le_refl _) o)
            have hzs : x.heap.size ≤ z2.heap.size := HG4.out.size
            go_wp2_with (at_builtin; refine Pp.wpList_app1 rfl _ _ rfl x.heap.size _ vs rfl (HR4.out.grow (k1.out _)) z2.heap.size v _ _ rfl (heap_alloc_new _ _) (by omega) (Nat.le_trans hzs (k1.out _).size) ?_; intro v5 z5 hr5 hp5; have HR5 := Lib.hid hr5; have HBX5 := Lib.hid (ibox_hop (HR4.out.grow (k1.out _)) hp5 (HBX4.out.grow (k1.out _)) (by decide)); have HC5 := Lib.hid (H0.out.hop (HC4.out.grow (k1.out _)) hp5.1 (fun g e => (HR4.out.base_le e))); have HG5 := Lib.hid (grownBy_trans (grownBy_trans HG4.out (grownBy_below (k1.out _) none) (.inr fun g e => by cases e)) hp5.1 (.inr fun g e => HR4.out.base_le e)); clear hr5 hp5)
            obtain ⟨A5, c5, rfl, _⟩ := HR5.out.reads
            go_roundw
            case rel => exact ⟨vs ++ [v], v, m', 5, rfl, by omega, by omega, by simp; omega, by simp; omega, HR5.out, HC5.out, HG5.out, HBX5.out, HS2.out _ _⟩
            case measure => simp [sliceLen]; omega
      · have q1 : decide ((vs.length : Int) < (k : Int)) = false := decide_eq_false (by omega)
        have hfin := Lib.hid (HST.out.done hlt)
        clear hbx hst
        go_wp2_with fail
        refine HE.out.mono ?_
        rintro ex z ⟨rfl, ez⟩
        have ez := ez.symm
        subst ez
        go_wp2_with fail
        refine HE.out.mono ?_
        rintro ex z ⟨rfl, ez⟩
        have ez := ez.symm
        subst ez
        go_wp2_with fail
        go_ret
        exact ⟨_, vs, m, 0, rfl, HR.out, HCU.out, outc_ok hfin.out, HG.out⟩
    · have q0 : (e == 0) = false := by simpa using he
      have q2 : (e != 0) = true := by simpa using he
      have hfin := Lib.hid (HST.out.bad he)
      have HEN := Lib.hid he
      clear hbx hst he
      go_wp2_with fail
      refine HE.out.mono ?_
      rintro ex z ⟨rfl, ez⟩
      have ez := ez.symm
      subst ez
      go_wp2_with fail
      refine HE.out.mono ?_
      rintro ex z ⟨rfl, ez⟩
      have ez := ez.symm
      subst ez
      go_wp2_with fail
      go_ret
      exact ⟨_, [], m, e, rfl, IRow.nil _ _, HCU.out, outc_error hfin.out HEN.out, HG.out⟩
end
end Go.Proofs.YtkdamaomhppkgaaGreat

/- The walks of layer 2's cursor: bytes that are taken, a new cursor, and its end. -/
namespace Go.Proofs.YtkdamaomhppkgaaGreat
open Go.RowKit

theorem brow_lower {w : World} {base b' : Nat} {v : Value} {l : List UInt8} (h : BRow w base 5 v l) (hb : b' ≤ base) : BRow w b' 5 v l := by
  refine ⟨h.1, ?_⟩
  rcases h.2 with h2 | ⟨g, cap, cur, h2, h3, h4⟩
  · exact .inl h2
  · exact .inr ⟨g, cap, cur, h2, Nat.le_trans hb h3, h4⟩
section
variable {x : World} {b : Nat} {A : Option Addr} {c : Nat} {l : List UInt8} {n : Nat} {e : Int}
theorem ctake_ok (h : CurS x b A c l n 0) {k : Nat} (hk : n + k ≤ l.length) : Calls Tryz.prog 59 #[.pointer (some ⟨b, 0, none⟩), .int .i64 k] x fun ex y => (∃ u, ex = .returned u ∧ BRow y x.heap.size 5 u ((l.drop n).take k)) ∧ CurS y b A c l (n + k) 0 ∧ x.grownBy y (some b) := by
  have HN := Lib.hid (cnext_ok h hk)
  have hs := h.small
  have hl2 : ((l.drop n).take k).length = k := by rw [List.length_take, List.length_drop]; omega
  clear h
  go_enter Tryz.func59, Tryz.ntmps59
  go_wp2_with fail
  refine HN.out.mono ?_
  rintro ex y ⟨⟨A', c', rfl, hB, hA⟩, h1, hg⟩
  have HC := bclone_any A' c' ((l.drop n).take k) y hB (by omega) hA
  rw [hl2] at HC
  have HC := Lib.hid HC
  have H1 := Lib.hid h1
  have G1 := Lib.hid hg
  clear h1 hg hB hA
  go_wp2_with fail
  refine HC.out.mono ?_
  rintro ex z ⟨u, rfl, hr, hb⟩
  have HR := Lib.hid hr
  have HB := Lib.hid hb
  clear hr hb
  go_wp2_with fail
  go_ret
  exact ⟨⟨u, rfl, brow_lower HR.out G1.out.size⟩, H1.out.grow HB.out, grownBy_trans G1.out (grownBy_below HB.out none) (.inr fun g e => by cases e)⟩
end
theorem cnew_any (A : Option Addr) (c : Nat) (l : List UInt8) (x : World) (hx : BAt x A c l) (hl : l.length ≤ 1000000) (hA : A = none → c = 0) :
    Calls Tryz.prog 10 #[.slice A l.length c] x fun ex y => ∃ b A' c', ex = .returned (.pointer (some ⟨b, 0, none⟩)) ∧ CurS y b A' c' l 0 0 ∧ x.heap.size ≤ b ∧ Below x.heap.size x y := by
  have HC := Lib.hid (fun w (h : BAt w A c l) => bclone_any A c l w h (by omega) hA)
  have HX := Lib.hid hx
  clear hx hA
  go_enter Tryz.func10, Tryz.ntmps10
  go_wp2_with fail
  refine (HC.out x HX.out).mono ?_
  rintro ex y ⟨u, rfl, hr, hb⟩
  obtain ⟨A', c', rfl, hB⟩ := hr.at_
  have hsh : (A' = none ∧ c' = 0) ∨ ∃ g, A' = some ⟨g, 0, none⟩ := by
    rcases hr.2 with ⟨h2, _⟩ | ⟨g, cap, cur, h2, _⟩
    · injection h2 with q1 q2 q3; exact .inl ⟨q1, q3⟩
    · injection h2 with q1 q2 q3; exact .inr ⟨g, q1⟩
  have HS := Lib.hid hsh
  have HB2 := Lib.hid hB
  have HB := Lib.hid hb
  clear hr hb hB hsh HC
  go_wp2_with fail
  go_ret
  exact ⟨_, _, _, rfl, ⟨heap_alloc_new _ _, HB2.out.grow ((Below.refl _ _).alloc (Nat.le_refl _) _), Nat.zero_le _, hl, HS.out⟩, HB.out.size, HB.out.alloc HB.out.size _⟩
end Go.Proofs.YtkdamaomhppkgaaGreat

/- The walks of layer 26: the codings, and a row that is read by a coding's number. -/
namespace Go.Proofs.YtkdamaomhppkgaaGreat
open Go.RowKit

/-- A coding's four cells. -/
def CAt (w : World) (g o : Nat) (c : Cod) : Prop :=
  w.cell? ⟨g, o, none⟩ = some (.int .i64 c.b) ∧ w.cell? ⟨g, o + 1, none⟩ = some (.int .i64 c.h) ∧ w.cell? ⟨g, o + 2, none⟩ = some (.int .i64 c.s) ∧ w.cell? ⟨g, o + 3, none⟩ = some (.int .i64 c.d)
def ccells : List Cod → List Value
  | [] => []
  | c :: cs => .int .i64 c.b :: .int .i64 c.h :: .int .i64 c.s :: .int .i64 c.d :: ccells cs
theorem ccells_get : ∀ {cs : List Cod} {j : Nat} {c : Cod}, cs[j]? = some c → (ccells cs)[j * 4]? = some (.int .i64 c.b) ∧ (ccells cs)[j * 4 + 1]? = some (.int .i64 c.h) ∧ (ccells cs)[j * 4 + 2]? = some (.int .i64 c.s) ∧ (ccells cs)[j * 4 + 3]? = some (.int .i64 c.d)
  | [], j, c, h => by simp at h
  | q :: cs, 0, c, h => by
    simp at h
    subst h
    exact ⟨rfl, rfl, rfl, rfl⟩
  | q :: cs, j + 1, c, h => by
    have := ccells_get (cs := cs) (j := j) (c := c) (by simpa using h)
    rw [show (j + 1) * 4 = j * 4 + 4 from by omega]
    simpa [ccells] using this
/-- A block with the codings. -/
def CodsAt (w : World) (g : Nat) : Prop := w.heap[g]? = some (.cells (ccells cods).toArray 122 (0, 0))
theorem CodsAt.grow {w w1 : World} {g : Nat} (h : CodsAt w g) (k : Below w.heap.size w w1) : CodsAt w1 g := (k.block g (Array.getElem?_eq_some_iff.1 h).1).trans h
theorem CodsAt.kept {w w1 : World} {g : Nat} {o : Option Nat} (h : CodsAt w g) (k : w.grownBy w1 o) (hne : some g ≠ o) : CodsAt w1 g := (k.block g (Array.getElem?_eq_some_iff.1 h).1 hne).trans h
theorem CodsAt.lt {w : World} {g : Nat} (h : CodsAt w g) : g < w.heap.size := (Array.getElem?_eq_some_iff.1 h).1
theorem CodsAt.at_ {w : World} {g : Nat} (h : CodsAt w g) {i : Nat} {c : Cod} (hc : cods[i]? = some c) : CAt w g (i * 4) c := by
  obtain ⟨h0, h1, h2, h3⟩ := ccells_get hc
  have hb := (blk_facts h).1
  unfold CAt
  rw [hb, hb, hb, hb]
  simp only [List.getElem?_toArray]
  exact ⟨h0, h1, h2, h3⟩
set_option maxRecDepth 100000 in
set_option maxHeartbeats 8000000 in
theorem codings_any (w : World) : Calls Tryz.prog 76 #[] w fun ex y => ex = .returned (.slice (some ⟨w.heap.size, 0, none⟩) 15 15) ∧ CodsAt y w.heap.size ∧ Below w.heap.size w y := by
  go_enter Tryz.func76, Tryz.ntmps76
  go_wp2
  go_ret
  exact ⟨rfl, heap_alloc_new _ _, (Below.refl _ _).alloc (Nat.le_refl _) _⟩
section
variable {x : World} {b : Nat} {A : Option Addr} {cc : Nat} {l : List UInt8} {n : Nat}
set_option maxHeartbeats 4000000 in
set_option maxRecDepth 100000 in
theorem bplain_any (h : CurS x b A cc l n 0) (kind k : Nat) (hkd : kind ≤ 1000) (hk : k ≤ 9223372036854775807) :
    Calls Tryz.prog 62 #[.pointer (some ⟨b, 0, none⟩), .int .i64 kind, .int .i64 k] x fun ex y => ∃ (u : Value) (vs : List Int) (m : Nat) (e : Int), ex = .returned u ∧ IRow y x.heap.size u vs ∧ CurS y b A cc l m e ∧ Outc (plainR kind k (l.drop n)) [] vs e (l.drop m) ∧ x.grownBy y (some b) := by
  have H0 := Lib.hid h
  have hls := h.small
  have hnl := h.le
  clear h
  go_enter Tryz.func62, Tryz.ntmps62
  go_wp2_with fail
  refine (codings_any x).mono ?_
  rintro ex y ⟨rfl, hcd, hb1⟩
  have hc1 := H0.out.grow hb1
  have hg1 := grownBy_below hb1 (some b)
  have HC1 := Lib.hid hc1
  have HG1 := Lib.hid hg1
  have HCD := Lib.hid hcd
  clear hb1 hg1
  by_cases hkd2 : kind < 15
  · have q1 : decide ((15 : Int) ≤ (kind : Int)) = false := decide_eq_false (by omega)
    have q2 : decide (15 ≤ kind) = false := decide_eq_false (by omega)
    obtain ⟨c, hc⟩ : ∃ c, cods[kind]? = some c := ⟨_, List.getElem?_eq_getElem (show kind < cods.length from hkd2)⟩
    have hok := Lib.hid (cods_ok c (List.mem_of_getElem? hc))
    have HL := Lib.hid (cleft_any hc1)
    have HCC := Lib.hid hc
    clear hc hc1
    go_wp2_with fail
    refine HL.out.mono ?_
    rintro ex z ⟨rfl, hb2⟩
    have hc2 := HC1.out.grow hb2
    have hcd2 := HCD.out.grow hb2
    obtain ⟨d0, d1, d2, d3⟩ := hcd2.at_ HCC.out
    have hz := hcd2.lt
    have HC2 := Lib.hid hc2
    have HG2 := Lib.hid (grownBy_trans HG1.out (grownBy_below hb2 none) (.inr fun g e => by cases e))
    have HCD2 := Lib.hid hcd2
    clear hb2 hcd2 HC1 HG1 HCD HL hcd
    by_cases hlt : l.length - n < k
    · have q3 : decide (((l.length - n : Nat) : Int) < (k : Int)) = true := decide_eq_true (by omega)
      have q4 : decide (l.length - n < k) = true := decide_eq_true hlt
      have hfin := Lib.hid (show plainR kind k (l.drop n) = .error 6 by
        unfold plainR; rw [HCC.out]; dsimp only; rw [if_pos (by rw [List.length_drop]; exact hlt)])
      have HFl := Lib.hid (cfail_any 6 hc2)
      clear hc2 hlt d0 d1 d2 d3 hz
      go_wp2_with fail
      refine HFl.out.mono ?_
      rintro ex z2 ⟨rfl, hc3, hg3⟩
      have e9 : fe 0 6 = 6 := rfl
      rw [e9] at hc3
      have hcd3 := HCD2.out.kept hg3 (by
        intro e
        injection e with e
        have := H0.out.lt
        omega)
      obtain ⟨d0, d1, d2, d3⟩ := hcd3.at_ HCC.out
      have hz := hcd3.lt
      have HG3 := Lib.hid (grownBy_trans HG2.out hg3 (.inl rfl))
      have HRR := Lib.hid (readrow_bad c hok.out hc3 (by decide) (k : Int) (by unfold I64; omega))
      unfold Cod.val at HRR
      clear hc3 hg3 hcd3 e9 HFl
      go_wp2_with fail
      refine HRR.out.mono ?_
      rintro ex z3 ⟨rfl, hc4, hg4⟩
      have HC4 := Lib.hid hc4
      have HG4 := Lib.hid (grownBy_trans HG3.out hg4 (.inl rfl))
      clear hc4 hg4
      go_wp2_with fail
      go_ret
      exact ⟨_, [], _, 6, rfl, IRow.nil _ _, HC4.out, outc_error hfin.out (by decide), HG4.out⟩
    · have q3 : decide (((l.length - n : Nat) : Int) < (k : Int)) = false := decide_eq_false (by omega)
      have q4 : decide (l.length - n < k) = false := decide_eq_false hlt
      have hfin := Lib.hid (show plainR kind k (l.drop n) = c.read k 0 (l.drop n) by
        unfold plainR; rw [HCC.out]; dsimp only; rw [if_neg (by rw [List.length_drop]; exact hlt)])
      have HRR := Lib.hid (readrow_any c hok.out hc2 k hk)
      unfold Cod.val at HRR
      clear hc2
      go_wp2_with fail
      refine HRR.out.mono ?_
      rintro ex z3 ⟨u, vs, m, e, rfl, hr4, hc4, ho4, hg4⟩
      have HC4 := Lib.hid hc4
      have HG4 := Lib.hid (grownBy_trans HG2.out hg4 (.inl rfl))
      have HR4 := Lib.hid (hr4.base HG2.out.size)
      have HO4 := Lib.hid ho4
      clear hc4 hg4 hr4 ho4
      go_wp2_with fail
      go_ret
      exact ⟨u, vs, m, e, rfl, HR4.out, HC4.out, by rw [hfin.out]; exact HO4.out, HG4.out⟩
  · have q1 : decide ((15 : Int) ≤ (kind : Int)) = true := decide_eq_true (by omega)
    have q2 : decide (15 ≤ kind) = true := decide_eq_true (by omega)
    have hfin := Lib.hid (show plainR kind k (l.drop n) = .error 9 by
      unfold plainR
      rw [List.getElem?_eq_none (show cods.length ≤ kind from (by have : cods.length = 15 := rfl; omega))])
    have HFl := Lib.hid (cfail_any 9 hc1)
    clear hc1 hcd
    go_wp2_with fail
    refine HFl.out.mono ?_
    rintro ex z2 ⟨rfl, hc3, hg3⟩
    have e9 : fe 0 9 = 9 := rfl
    rw [e9] at hc3
    have HC3 := Lib.hid hc3
    have HG3 := Lib.hid (grownBy_trans HG1.out hg3 (.inl rfl))
    clear hc3 hg3 HFl e9
    go_wp2_with fail
    go_ret
    exact ⟨_, [], _, 9, rfl, IRow.nil _ _, HC3.out, outc_error hfin.out (by decide), HG3.out⟩
end
end Go.Proofs.YtkdamaomhppkgaaGreat

/- The walks of layer 26: how many tokens are nought; the next row of three. -/
namespace Go.Proofs.YtkdamaomhppkgaaGreat
open Go.RowKit

set_option maxRecDepth 100000 in
theorem bcount_any (A : Option Addr) (c : Nat) (xs : List Int) (w : World) (hx : Ints w A c xs) (hn : xs.length ≤ 1000000) :
    Calls Tryz.prog 83 #[.slice A xs.length c] w fun e w' => e = .returned (.int .i64 (xs.count 0 : Nat)) ∧ w' = w := by
  have HX := Lib.hid hx
  clear hx
  go_enter Tryz.func83, Tryz.ntmps83
  go_wp2_with fail
  go_loop [3, 8] (fun s u => ∃ i : Nat, i ≤ xs.length ∧ u = .int .i64 i ∧ s = .int .i64 ((xs.take i).count 0 : Nat)) (fun _ u => xs.length - (intOf u).toNat)
  case atStart => exact ⟨0, Nat.zero_le _, rfl, rfl⟩
  case round =>
    obtain ⟨i, hi, rfl, rfl⟩ := hrel
    by_cases h1 : i < xs.length
    · obtain ⟨g, o, v, rfl, hg, hvi, hct⟩ := HX.out.at_ h1
      have hcl : (xs.take i).count 0 ≤ i := Nat.le_trans List.count_le_length (by rw [List.length_take]; omega)
      have hst := Lib.hid (show (xs.take (i + 1)).count 0 = (xs.take i).count 0 + if v = 0 then 1 else 0 by
        rw [List.take_succ_eq_append_getElem h1, List.count_append]
        have e : xs[i] = v := (List.getElem?_eq_some_iff.1 hvi).2
        rw [e]
        by_cases hv : v = 0
        · subst hv; simp
        · simp [hv])
      clear hvi
      generalize hc : (xs.take i).count 0 = m at *
      have HC := Lib.hid hc
      clear hc
      by_cases hv : v = 0
      · have q : (v == 0) = true := by simpa using hv
        have hst2 := Lib.hid (hst.out.trans (by rw [if_pos hv]))
        clear hst hv
        go_wp2_with fail
        go_round
        case rel => exact ⟨i + 1, by omega, by go_num, by rw [hst2.out]; go_num⟩
        case measure => simp [intOf]; omega
      · have q : (v == 0) = false := by simpa using hv
        have hst2 := Lib.hid (hst.out.trans (by rw [if_neg hv, Nat.add_zero]))
        clear hst hv
        go_wp2_with fail
        go_round
        case rel => exact ⟨i + 1, by omega, by go_num, by rw [hst2.out]⟩
        case measure => simp [intOf]; omega
    · have hii : i = xs.length := by omega
      subst hii
      rw [List.take_length]
      go_wp2_with fail
      go_ret
      exact ⟨rfl, rfl⟩
/-- A variable with the cursor. -/
def PcBox (w : World) (B b : Nat) : Prop := w.heap[B]? = some (.cells #[.pointer (some ⟨b, 0, none⟩)] 37 (0, 0))
theorem PcBox.lt {w : World} {B b : Nat} (h : PcBox w B b) : B < w.heap.size := (Array.getElem?_eq_some_iff.1 h).1
theorem PcBox.grow {w w1 : World} {B b : Nat} (h : PcBox w B b) (k : Below w.heap.size w w1) : PcBox w1 B b := (k.block B h.lt).trans h
theorem PcBox.kept {w w1 : World} {B b : Nat} {o : Option Nat} (h : PcBox w B b) (k : w.grownBy w1 o) (hne : some B ≠ o) : PcBox w1 B b := (k.block B h.lt hne).trans h
theorem PcBox.ne {w : World} {B b : Nat} {A : Option Addr} {cc : Nat} {l : List UInt8} {n : Nat} {e : Int} (h : PcBox w B b) (k : CurS w b A cc l n e) : some B ≠ some b := by
  intro e
  injection e with e
  subst e
  have h1 := h
  have h2 := k.box
  unfold PcBox at h1
  rw [h1] at h2
  injection h2 with h2
  injection h2 with _ h3 _
  exact absurd h3 (by decide)
/-- What is read next, whether there is an error ahead or not. -/
def NextRes (b : Nat) (A : Option Addr) (cc : Nat) (l : List UInt8) (_n : Nat) (e : Int) (o : Except Int (List Int × List UInt8)) (x : World) (ex : Ending) (y : World) : Prop :=
  ∃ (u : Value) (vs : List Int) (m : Nat) (e' : Int), ex = .returned u ∧ IRow y x.heap.size u vs ∧ CurS y b A cc l m e' ∧ (e = 0 → Outc o [] vs e' (l.drop m)) ∧ (e ≠ 0 → vs = [] ∧ e' = e) ∧ x.grownBy y (some b)
section
variable {x : World} {b : Nat} {A : Option Addr} {cc : Nat} {l : List UInt8} {n : Nat} {e : Int}
set_option maxHeartbeats 4000000 in
set_option maxRecDepth 100000 in
theorem next_any (B : Nat) (h : CurS x b A cc l n e) (hp : PcBox x B b) (k : Nat) (hk : k ≤ 9223372036854775807) :
    Calls Tryz.prog 82 #[.int .i64 k, .pointer (some ⟨B, 0, none⟩)] x (NextRes b A cc l n e (nextR k (l.drop n)) x) := by
  have H0 := Lib.hid h
  have HP := Lib.hid hp
  have hne := hp.ne h
  have hz := hp.lt
  have c0 : x.cell? ⟨B, 0, none⟩ = some (.pointer (some ⟨b, 0, none⟩)) := (blk_facts hp).1 0
  have hnl := h.le
  by_cases he : e = 0
  · subst he
    by_cases hend : n < l.length
    · obtain ⟨a, ha⟩ : ∃ a, l[n]? = some a := ⟨_, List.getElem?_eq_getElem hend⟩
      have HB := Lib.hid (cbig_ok h ha)
      have hab := a.toNat_lt
      have hfin := Lib.hid (show nextR k (l.drop n) = plainR a.toNat k (l.drop (n + 1)) by rw [drop_atI ha]; rfl)
      clear h hp ha
      go_enter Tryz.func82, Tryz.ntmps82
      go_wp2_with fail
      refine HB.out.mono ?_
      rintro ex z ⟨rfl, hc1, hg1⟩
      have hp1 := HP.out.kept hg1 hne
      have c1 : z.cell? ⟨B, 0, none⟩ = some (.pointer (some ⟨b, 0, none⟩)) := (blk_facts hp1).1 0
      have hz1 := hp1.lt
      have HE := Lib.hid (cerr_any hc1)
      have HPl := Lib.hid (bplain_any hc1 a.toNat k (by omega) hk)
      have HG1 := Lib.hid hg1
      clear hc1 hg1 hp1 c0 hz HB
      go_wp2_with fail
      refine HE.out.mono ?_
      rintro ex z2 ⟨rfl, ez⟩
      have ez := ez.symm
      subst ez
      go_wp2_with fail
      refine HPl.out.mono ?_
      rintro ex z2 ⟨u, vs, m, e', rfl, hr, hc2, ho, hg2⟩
      have HR := Lib.hid (hr.base HG1.out.size)
      have HC := Lib.hid hc2
      have HO := Lib.hid ho
      have HG := Lib.hid (grownBy_trans HG1.out hg2 (.inl rfl))
      clear hr hc2 ho hg2 HPl HE
      go_wp2_with fail
      go_ret
      exact ⟨u, vs, m, e', rfl, HR.out, HC.out, fun _ => by rw [hfin.out]; exact HO.out, fun h => absurd rfl h, HG.out⟩
    · have HB := Lib.hid (cbig_end h (by omega))
      have hfin := Lib.hid (show nextR k (l.drop n) = .error 6 by rw [List.drop_of_length_le (by omega)]; rfl)
      clear h hp
      go_enter Tryz.func82, Tryz.ntmps82
      go_wp2_with fail
      refine HB.out.mono ?_
      rintro ex z ⟨rfl, hc1, hg1⟩
      have hp1 := HP.out.kept hg1 hne
      have c1 : z.cell? ⟨B, 0, none⟩ = some (.pointer (some ⟨b, 0, none⟩)) := (blk_facts hp1).1 0
      have hz1 := hp1.lt
      have HE := Lib.hid (cerr_any hc1)
      have HC := Lib.hid hc1
      have HG1 := Lib.hid hg1
      clear hc1 hg1 hp1 c0 hz HB
      go_wp2_with fail
      refine HE.out.mono ?_
      rintro ex z2 ⟨rfl, ez⟩
      have ez := ez.symm
      subst ez
      go_wp2_with fail
      go_ret
      exact ⟨_, [], _, 6, rfl, IRow.nil _ _, HC.out, fun _ => outc_error hfin.out (by decide), fun h => absurd rfl h, HG1.out⟩
  · have HB := Lib.hid (cbig_bad h he)
    have HE := Lib.hid (cerr_any h)
    have q : (e != 0) = true := by simpa using he
    have HEN := Lib.hid he
    clear h hp he
    go_enter Tryz.func82, Tryz.ntmps82
    go_wp2_with fail
    refine HB.out.mono ?_
    rintro ex z ⟨rfl, ez⟩
    have ez := ez.symm
    subst ez
    go_wp2_with fail
    refine HE.out.mono ?_
    rintro ex z2 ⟨rfl, ez⟩
    have ez := ez.symm
    subst ez
    go_wp2_with fail
    go_ret
    exact ⟨_, [], n, e, rfl, IRow.nil _ _, H0.out, fun h => absurd h HEN.out, fun _ => ⟨rfl, rfl⟩, World.grownBy.refl _ _⟩
end
end Go.Proofs.YtkdamaomhppkgaaGreat

/- Layer 26: a row by its favorites, read in three: what it comes to. -/
namespace Go.Proofs.YtkdamaomhppkgaaGreat
open Go.RowKit Pp

theorem read_in (c : Cod) : ∀ (n : Nat) (last : Int) (r : List UInt8) (q : List Int × List UInt8), c.read n last r = .ok q → ∀ v ∈ q.1, -2147483648 ≤ v ∧ v < 4294967296
  | 0, last, r, q, h, v, hv => by
    simp only [Cod.read, Except.ok.injEq] at h
    subst h
    cases hv
  | n + 1, last, r, q, h, v, hv => by
    rw [Cod.read_succ] at h
    cases hg : c.get r with
    | error e => rw [hg] at h; cases h
    | ok p =>
      rw [hg] at h
      dsimp only at h
      split at h
      · rename_i hb
        cases hr : c.read n (c.sum last p.1) p.2 with
        | error e => rw [hr] at h; cases h
        | ok q2 =>
          rw [hr] at h
          simp only [pre, Except.ok.injEq] at h
          subst h
          rcases List.mem_cons.1 hv with rfl | hv
          · exact c.sum_in last hb
          · exact read_in c n _ _ _ hr v hv
      · cases h
theorem plainR_facts {kind n : Nat} {r : List UInt8} {q : List Int × List UInt8} (h : plainR kind n r = .ok q) : q.1.length = n ∧ n ≤ r.length ∧ ∀ v ∈ q.1, -2147483648 ≤ v ∧ v < 4294967296 := by
  unfold plainR at h
  cases hc : cods[kind]? with
  | none => rw [hc] at h; cases h
  | some c =>
    rw [hc] at h
    dsimp only at h
    split at h
    · cases h
    · rename_i hl
      exact ⟨read_len c n 0 r q h, by omega, read_in c n 0 r q h⟩
theorem nextR_facts {n : Nat} {r : List UInt8} {q : List Int × List UInt8} (h : nextR n r = .ok q) : q.1.length = n ∧ n ≤ r.length ∧ ∀ v ∈ q.1, -2147483648 ≤ v ∧ v < 4294967296 := by
  cases r with
  | nil => cases h
  | cons k r =>
    have := plainR_facts (show plainR k.toNat n r = .ok q from h)
    refine ⟨this.1, ?_, this.2.2⟩
    simp only [List.length_cons]
    omega
theorem i64_of {vs : List Int} (h : ∀ v ∈ vs, -2147483648 ≤ v ∧ v < 4294967296) : ∀ v ∈ vs, I64 v := fun v hv => by
  have := h v hv
  unfold I64
  omega
/-- The three rows, and what they join to. -/
def trio (m n : Nat) (r : List UInt8) : Except Int (List Int × List UInt8) :=
  match nextR m r with
  | .error e => .error e
  | .ok (fs, r1) => match nextR n r1 with
    | .error e => .error e
    | .ok (ts, r2) => match nextR (ts.count 0) r2 with
      | .error e => .error e
      | .ok (rs, r3) => if Po.err fs ts rs = 0 then .ok (Po.out fs ts rs, r3) else .error (Po.err fs ts rs)
theorem joinR_trio {n : Nat} {m : UInt8} (hm : ¬ (m.toNat < 1 ∨ 15 < m.toNat)) (r : List UInt8) : joinR n (m :: r) = trio m.toNat n r := joinR_cons hm r
theorem joinR_bad {n : Nat} {m : UInt8} (hm : m.toNat < 1 ∨ 15 < m.toNat) (r : List UInt8) : joinR n (m :: r) = .error 2 := by
  show (if m.toNat < 1 ∨ 15 < m.toNat then Except.error 2 else _) = _
  rw [if_pos hm]
/-- What the three calls of 'next' tell. -/
theorem trio_of {m n : Nat} {L l1 l2 l3 : List UInt8} {fs ts rs : List Int} {e1 e2 e3 : Int}
    (h1 : Outc (nextR m L) [] fs e1 l1) (h2 : e1 = 0 → Outc (nextR n l1) [] ts e2 l2) (k2 : e1 ≠ 0 → ts = [] ∧ e2 = e1)
    (h3 : e2 = 0 → Outc (nextR (ts.count 0) l2) [] rs e3 l3) (k3 : e2 ≠ 0 → rs = [] ∧ e3 = e2) :
    (e3 ≠ 0 ∧ trio m n L = .error e3) ∨ (e3 = 0 ∧ (trio m n L = if Po.err fs ts rs = 0 then .ok (Po.out fs ts rs, l3) else .error (Po.err fs ts rs)) ∧
      fs.length = m ∧ ts.length = n ∧ m ≤ L.length ∧ n ≤ l1.length ∧ rs.length = ts.count 0 ∧ (∀ v ∈ fs, I64 v) ∧ (∀ v ∈ rs, I64 v)) := by
  unfold trio
  cases g1 : nextR m L with
  | error e =>
    rw [g1] at h1
    obtain ⟨rfl, hne, rfl⟩ := h1
    obtain ⟨rfl, rfl⟩ := k2 hne
    obtain ⟨rfl, rfl⟩ := k3 hne
    exact .inl ⟨hne, rfl⟩
  | ok p1 =>
    obtain ⟨f0, q1⟩ := p1
    rw [g1] at h1
    obtain ⟨rfl, rfl, rfl⟩ := h1
    dsimp only at *
    have h2 := h2 rfl
    cases g2 : nextR n l1 with
    | error e =>
      rw [g2] at h2
      obtain ⟨rfl, hne, rfl⟩ := h2
      obtain ⟨rfl, rfl⟩ := k3 hne
      exact .inl ⟨hne, rfl⟩
    | ok p2 =>
      obtain ⟨t0, q2⟩ := p2
      rw [g2] at h2
      obtain ⟨rfl, rfl, rfl⟩ := h2
      dsimp only at *
      have h3 := h3 rfl
      cases g3 : nextR (ts.count 0) l2 with
      | error e =>
        rw [g3] at h3
        obtain ⟨rfl, hne, rfl⟩ := h3
        exact .inl ⟨hne, rfl⟩
      | ok p3 =>
        obtain ⟨r0, q3⟩ := p3
        rw [g3] at h3
        obtain ⟨rfl, rfl, rfl⟩ := h3
        have f1 := nextR_facts g1
        have f2 := nextR_facts g2
        have f3 := nextR_facts g3
        exact .inr ⟨rfl, rfl, f1.1, f2.1, f1.2.1, f2.2.1, f3.1, i64_of f1.2.2, i64_of f3.2.2⟩
theorem po_out_err {fs ts rs : List Int} (h : Po.err fs ts rs ≠ 0) : Po.out fs ts rs = [] := if_neg h
end Go.Proofs.YtkdamaomhppkgaaGreat

/- The walk of layer 26: a row that is read by its favorites. -/
namespace Go.Proofs.YtkdamaomhppkgaaGreat
open Go.RowKit Pp

theorem outc_len {k : Nat} {L r : List UInt8} {vs : List Int} {e : Int} (h : Outc (nextR k L) [] vs e r) : vs.length ≤ L.length := by
  cases g : nextR k L with
  | error e2 =>
    rw [g] at h
    rw [h.2.2]
    simp
  | ok p =>
    rw [g] at h
    have := nextR_facts g
    rw [h.2.1]
    omega
/-- A row that is read. -/
def IRead (y : World) (base : Nat) (u : Value) (vs : List Int) : Prop := ∃ A c, u = .slice A vs.length c ∧ Ints y A c vs ∧ ∀ g o, A = some ⟨g, o, none⟩ → base ≤ g
theorem IRead.of {y : World} {base : Nat} {u : Value} {vs : List Int} (h : IRow y base u vs) : IRead y base u vs := h.readsB
theorem IRead.lower {y : World} {base b' : Nat} {u : Value} {vs : List Int} (h : IRead y base u vs) (hb : b' ≤ base) : IRead y b' u vs := by
  obtain ⟨A, c, rfl, h1, h2⟩ := h
  exact ⟨A, c, rfl, h1, fun g o e => Nat.le_trans hb (h2 g o e)⟩
theorem Ints.kept {w w1 : World} {A : Option Addr} {c : Nat} {xs : List Int} (h : Ints w A c xs) {o : Option Nat} (k : w.grownBy w1 o) (hne : ∀ g o', A = some ⟨g, o', none⟩ → some g ≠ o) : Ints w1 A c xs :=
  ⟨h.1, fun hp => by
    obtain ⟨g, o', e, hg, hc⟩ := h.2 hp
    exact ⟨g, o', e, Nat.lt_of_lt_of_le hg k.size, fun j x hx => (World.cell?_of_block (k.block g hg (hne g o' e))).trans (hc j x hx)⟩⟩
theorem IRead.kept {y z : World} {base b : Nat} {u : Value} {vs : List Int} (h : IRead y base u vs) (k : y.grownBy z (some b)) (hb : b < base) : IRead z base u vs := by
  obtain ⟨A, c, rfl, h1, h2⟩ := h
  exact ⟨A, c, rfl, h1.kept k (fun g o e e2 => by have := h2 g o e; injection e2 with e2; omega), h2⟩
theorem IRead.grow {y z : World} {base : Nat} {u : Value} {vs : List Int} (h : IRead y base u vs) (k : Below y.heap.size y z) : IRead z base u vs := by
  obtain ⟨A, c, rfl, h1, h2⟩ := h
  exact ⟨A, c, rfl, h1.grow k, h2⟩
theorem IRead.nil (y : World) (base : Nat) : IRead y base (.slice none 0 0) [] := ⟨none, 0, rfl, Ints.nil _ _ _, fun g o e => by cases e⟩
section
variable {x : World} {b : Nat} {A : Option Addr} {cc : Nat} {l : List UInt8} {n : Nat}
set_option maxHeartbeats 8000000 in
set_option maxRecDepth 100000 in
theorem joined_any (h : CurS x b A cc l n 0) (k : Nat) (hk : k ≤ 9223372036854775807) (hl : l.length ≤ 100000) :
    Calls Tryz.prog 61 #[.pointer (some ⟨b, 0, none⟩), .int .i64 k] x fun ex y => ∃ (u : Value) (vs : List Int) (m : Nat) (e : Int), ex = .returned u ∧ IRead y x.heap.size u vs ∧ CurS y b A cc l m e ∧ Outc (joinR k (l.drop n)) [] vs e (l.drop m) ∧ x.grownBy y (some b) := by
  have H0 := Lib.hid h
  have hbl := h.lt
  have hnl := h.le
  have k1 := (Below.refl x.heap.size x).alloc (Nat.le_refl _) (.cells #[.pointer (some ⟨b, 0, none⟩)] 37)
  have hp0 : PcBox (x.alloc (.cells #[.pointer (some ⟨b, 0, none⟩)] 37)) x.heap.size b := heap_alloc_new _ _
  have h1 := h.grow k1
  have HP0 := Lib.hid hp0
  have HG0 := Lib.hid (grownBy_below k1 (some b))
  have H1 := Lib.hid h1
  -- what is read first, and the error then
  have hmany : ∃ (mm m1 : Nat) (e1 : Int) (ca : Calls Tryz.prog 60 #[.pointer (some ⟨b, 0, none⟩), .int .i64 1] (x.alloc (.cells #[.pointer (some ⟨b, 0, none⟩)] 37)) fun ex y => ex = .returned (.int .u64 (mm : Int)) ∧ CurS y b A cc l m1 e1 ∧ (x.alloc (.cells #[.pointer (some ⟨b, 0, none⟩)] 37)).grownBy y (some b)),
      mm ≤ 255 ∧ ((e1 = 0 ∧ 1 ≤ mm ∧ mm ≤ 15 ∧ joinR k (l.drop n) = trio mm k (l.drop m1)) ∨ ((mm < 1 ∨ 15 < mm) ∧ ∃ e2, fe e1 2 = e2 ∧ e2 ≠ 0 ∧ joinR k (l.drop n) = .error e2)) := by
    by_cases hend : n < l.length
    · obtain ⟨a, ha⟩ : ∃ a, l[n]? = some a := ⟨_, List.getElem?_eq_getElem hend⟩
      have hab := a.toNat_lt
      refine ⟨a.toNat, n + 1, 0, cbig_ok h1 ha, by omega, ?_⟩
      rw [drop_atI ha]
      by_cases hm : a.toNat < 1 ∨ 15 < a.toNat
      · exact .inr ⟨hm, 2, rfl, by decide, joinR_bad hm _⟩
      · exact .inl ⟨rfl, by omega, by omega, joinR_trio hm _⟩
    · refine ⟨0, n, 6, cbig_end h1 (by omega), by omega, .inr ⟨.inl (by omega), 6, rfl, by decide, ?_⟩⟩
      rw [List.drop_of_length_le (by omega)]
      rfl
  obtain ⟨mm, m1, e1, ca, hmm, hcase⟩ := hmany
  have HCA := Lib.hid ca
  have HCS := Lib.hid hcase
  clear ca hcase h hp0 k1 h1
  go_enter Tryz.func61, Tryz.ntmps61
  go_wp2_with fail
  refine HCA.out.mono ?_
  rintro ex y ⟨rfl, hc1, hg1⟩
  have hp1 := HP0.out.kept hg1 (HP0.out.ne H1.out)
  have c1 : y.cell? ⟨x.heap.size, 0, none⟩ = some (.pointer (some ⟨b, 0, none⟩)) := (blk_facts hp1).1 0
  have hz1 := hp1.lt
  have HP1 := Lib.hid hp1
  have HG1 := Lib.hid (grownBy_trans HG0.out hg1 (.inl rfl))
  have HC1 := Lib.hid hc1
  clear hp1 hg1 hc1 HP0 HG0 H1 HCA
  have hcs := HCS.out
  rcases hcs with ⟨rfl, q1, q2, hjo⟩ | ⟨q1, e2, hfe, hne2, hjo⟩
  · -- good
    have q3 : decide ((mm : Int) < 1) = false := decide_eq_false (by omega)
    have q4 : decide ((15 : Int) < (mm : Int)) = false := decide_eq_false (by omega)
    have q5 : decide (15 < mm) = false := decide_eq_false (by omega)
    have q6 : decide (mm < 1) = false := decide_eq_false (by omega)
    have HJO := Lib.hid hjo
    clear hjo
    have HN1 := Lib.hid (next_any x.heap.size HC1.out HP1.out mm (by omega))
    go_wp2_with fail
    refine HN1.out.mono ?_
    rintro ex w1 ⟨u1, fs, n1, r1, rfl, hr1, hc1, ho1, hb1, hg1⟩
    have HQ1 := Lib.hid (HP1.out.kept hg1 (HP1.out.ne HC1.out))
    have HR1 := Lib.hid hr1
    have HD1 := Lib.hid hc1
    have HO1 := Lib.hid ho1
    have HB1 := Lib.hid hb1
    have HG1b := Lib.hid (grownBy_trans HG1.out hg1 (.inl rfl))
    clear hr1 hc1 ho1 hb1 hg1 HN1
    have HN2 := Lib.hid (next_any x.heap.size HD1.out HQ1.out k hk)
    go_wp2_with fail
    refine HN2.out.mono ?_
    rintro ex w2 ⟨u2, ts, n2, r2, rfl, hr2, hc2, ho2, hb2, hg2⟩
    have HQ2 := Lib.hid (HQ1.out.kept hg2 (HQ1.out.ne HD1.out))
    have HR12 := Lib.hid (irow_kept HR1.out hg2 HD1.out.box (by decide))
    have HR2 := Lib.hid hr2
    have HD2 := Lib.hid hc2
    have HO2 := Lib.hid ho2
    have HB2 := Lib.hid hb2
    have HG2 := Lib.hid (grownBy_trans HG1b.out hg2 (.inl rfl))
    have HS12 := Lib.hid hg2.size
    obtain ⟨A2, c2, rfl, hi2⟩ := hr2.reads
    have htl : ts.length ≤ 100000 := by
      by_cases h0 : r1 = 0
      · have g1 := outc_len (ho2 h0)
        rw [List.length_drop] at g1
        omega
      · rw [(hb2 h0).1]; simp
    have HCn := Lib.hid (bcount_any A2 c2 ts w2 hi2 (by omega))
    have hcl : ts.count 0 ≤ ts.length := List.count_le_length
    clear hr2 hc2 ho2 hb2 hg2 HN2 HR1 hi2
    go_wp2_with fail
    refine HCn.out.mono ?_
    rintro ex w2b ⟨rfl, ew⟩
    have ew := ew.symm
    subst ew
    have HN3 := Lib.hid (next_any x.heap.size HD2.out HQ2.out (ts.count 0) (by omega))
    go_wp2_with fail
    refine HN3.out.mono ?_
    rintro ex w3 ⟨u3, rs, n3, r3, rfl, hr3, hc3, ho3, hb3, hg3⟩
    have hq3 := HQ2.out.kept hg3 (HQ2.out.ne HD2.out)
    have d1 : w3.cell? ⟨x.heap.size, 0, none⟩ = some (.pointer (some ⟨b, 0, none⟩)) := (blk_facts hq3).1 0
    have hz3 := hq3.lt
    have HR13 := Lib.hid (irow_kept HR12.out hg3 HD2.out.box (by decide))
    have HR23 := Lib.hid (irow_kept HR2.out hg3 HD2.out.box (by decide))
    have HR3 := Lib.hid hr3
    have HD3 := Lib.hid hc3
    have HO3 := Lib.hid ho3
    have HB3 := Lib.hid hb3
    have HG3 := Lib.hid (grownBy_trans HG2.out hg3 (.inl rfl))
    have HE3 := Lib.hid (cerr_any hc3)
    have HS3 := Lib.hid hg3.size
    have HQ3 := Lib.hid hq3
    clear hr3 hc3 ho3 hb3 hg3 HN3 HR12 HR2 hq3 HCn
    go_wp2_with fail
    refine HE3.out.mono ?_
    rintro ex w4 ⟨rfl, ew⟩
    have ew := ew.symm
    subst ew
    clear HE3
    have hkey := trio_of (m := mm) (n := k) (HO1.out (by trivial)) HO2.out HB2.out HO3.out HB3.out
    have HK := Lib.hid hkey
    clear hkey
    by_cases hr0 : r3 = 0
    · subst hr0
      obtain ⟨hj, hfl, htl2, _, hkl, hrl, hI, hJ⟩ : (trio mm k (l.drop m1) = if Po.err fs ts rs = 0 then .ok (Po.out fs ts rs, l.drop n3) else .error (Po.err fs ts rs)) ∧ fs.length = mm ∧ ts.length = k ∧ mm ≤ (l.drop m1).length ∧ k ≤ (l.drop n1).length ∧ rs.length = ts.count 0 ∧ (∀ v ∈ fs, I64 v) ∧ (∀ v ∈ rs, I64 v) := by
        rcases HK.out with ⟨h, _⟩ | ⟨_, h⟩
        · exact absurd rfl h
        · exact h
      have HJ := Lib.hid (HJO.out.trans hj)
      obtain ⟨A1, k1, rfl, hi1⟩ := HR13.out.reads
      obtain ⟨A2', k2, e2', hi2⟩ := HR23.out.reads
      cases e2'
      obtain ⟨A3, k3, rfl, hi3⟩ := HR3.out.reads
      have HJn := Lib.hid (join_any A1 A2 A3 k1 c2 k3 fs ts rs w3 hi1 hi2 hi3 hI hJ (by omega) (by omega) (by omega))
      clear hi1 hi2 hi3 hI hJ hj HR13 HR23 HR3 HK hfl htl2 hrl hkl
      go_wp2_with fail
      refine HJn.out.mono ?_
      rintro ex w5 ⟨A5, k5, rfl, ⟨hi5, hf5⟩, hb5⟩
      have hq5 := HQ3.out.grow hb5
      have d5 : w5.cell? ⟨x.heap.size, 0, none⟩ = some (.pointer (some ⟨b, 0, none⟩)) := (blk_facts hq5).1 0
      have hz5 := hq5.lt
      have HD5 := Lib.hid (HD3.out.grow hb5)
      have HG5 := Lib.hid (grownBy_trans HG3.out (grownBy_below hb5 none) (.inr fun g e => by cases e))
      have HI5 := Lib.hid (show IRead w5 x.heap.size (.slice A5 (Po.out fs ts rs).length k5) (Po.out fs ts rs) from ⟨A5, k5, rfl, hi5, fun g o e => Nat.le_trans HG3.out.size (hf5 g o e)⟩)
      clear hi5 hf5 hb5 hq5 HJn d1 hz3
      by_cases her : Po.err fs ts rs = 0
      · have q7 : (Po.err fs ts rs != 0) = false := by simp [her]
        have hfin := Lib.hid (HJ.out.trans (if_pos her))
        clear her
        go_wp2_with fail
        go_ret
        exact ⟨_, _, _, 0, rfl, HI5.out, HD5.out, outc_ok hfin.out, HG5.out⟩
      · have q7 : (Po.err fs ts rs != 0) = true := by simp [her]
        have hfin := Lib.hid (HJ.out.trans (if_neg her))
        have HFl := Lib.hid (cfail_any (Po.err fs ts rs) HD5.out)
        have HER := Lib.hid her
        have hno := Lib.hid (po_out_err her)
        clear her
        go_wp2_with fail
        refine HFl.out.mono ?_
        rintro ex w6 ⟨rfl, hc6, hg6⟩
        have e9 : fe 0 (Po.err fs ts rs) = Po.err fs ts rs := rfl
        rw [e9] at hc6
        have HD6 := Lib.hid hc6
        have HG6 := Lib.hid (grownBy_trans HG5.out hg6 (.inl rfl))
        have HI6 := Lib.hid (HI5.out.kept hg6 hbl)
        clear hc6 hg6 HFl e9
        go_wp2_with fail
        go_ret
        exact ⟨_, [], _, _, rfl, hno.out ▸ HI6.out, HD6.out, outc_error hfin.out HER.out, HG6.out⟩
    · have q7 : (r3 != 0) = true := by simpa using hr0
      have hfin := Lib.hid (show joinR k (l.drop n) = .error r3 by
        rcases HK.out with ⟨_, h⟩ | ⟨h, _⟩
        · exact HJO.out.trans h
        · exact absurd h hr0)
      have HRN := Lib.hid hr0
      clear hr0
      go_wp2_with fail
      go_ret
      exact ⟨_, [], _, r3, rfl, IRead.nil _ _, HD3.out, outc_error hfin.out HRN.out, HG3.out⟩
  · -- bad
    rcases q1 with q1 | q1
    · have q3 : decide ((mm : Int) < 1) = true := decide_eq_true (by omega)
      have q6 : decide (mm < 1) = true := decide_eq_true (by omega)
      have HFl := Lib.hid (cfail_any 2 HC1.out)
      have HJO := Lib.hid hjo
      have HN2E := Lib.hid hne2
      clear hjo hne2
      go_wp2_with fail
      refine HFl.out.mono ?_
      rintro ex yb ⟨rfl, hcb, hgb⟩
      rw [hfe] at hcb
      have HPb := Lib.hid (HP1.out.kept hgb (HP1.out.ne HC1.out))
      have HCb := Lib.hid hcb
      have HGb := Lib.hid (grownBy_trans HG1.out hgb (.inl rfl))
      have db : yb.cell? ⟨x.heap.size, 0, none⟩ = some (.pointer (some ⟨b, 0, none⟩)) := (blk_facts HPb.out).1 0
      have hzb := HPb.out.lt
      clear hcb hgb HFl c1 hz1 HP1 HG1 HC1 hfe
      have HN1 := Lib.hid (next_any x.heap.size HCb.out HPb.out mm (by omega))
      go_wp2_with fail
      refine HN1.out.mono ?_
      rintro ex w1 ⟨u1, fs, n1, r1, rfl, hr1, hc1, ho1, hb1, hg1⟩
      have HQ1 := Lib.hid (HPb.out.kept hg1 (HPb.out.ne HCb.out))
      have HR1 := Lib.hid hr1
      have HD1 := Lib.hid hc1
      have HO1 := Lib.hid ho1
      have HB1 := Lib.hid hb1
      have HG1b := Lib.hid (grownBy_trans HGb.out hg1 (.inl rfl))
      clear hr1 hc1 ho1 hb1 hg1 HN1
      have HN2 := Lib.hid (next_any x.heap.size HD1.out HQ1.out k hk)
      go_wp2_with fail
      refine HN2.out.mono ?_
      rintro ex w2 ⟨u2, ts, n2, r2, rfl, hr2, hc2, ho2, hb2, hg2⟩
      have HQ2 := Lib.hid (HQ1.out.kept hg2 (HQ1.out.ne HD1.out))
      have HR12 := Lib.hid (irow_kept HR1.out hg2 HD1.out.box (by decide))
      have HR2 := Lib.hid hr2
      have HD2 := Lib.hid hc2
      have HO2 := Lib.hid ho2
      have HB2 := Lib.hid hb2
      have HG2 := Lib.hid (grownBy_trans HG1b.out hg2 (.inl rfl))
      have HS12 := Lib.hid hg2.size
      obtain ⟨A2, c2, rfl, hi2⟩ := hr2.reads
      have htl : ts.length ≤ 100000 := by
        by_cases h0 : r1 = 0
        · have g1 := outc_len (ho2 h0)
          rw [List.length_drop] at g1
          omega
        · rw [(hb2 h0).1]; simp
      have HCn := Lib.hid (bcount_any A2 c2 ts w2 hi2 (by omega))
      have hcl : ts.count 0 ≤ ts.length := List.count_le_length
      clear hr2 hc2 ho2 hb2 hg2 HN2 HR1 hi2
      go_wp2_with fail
      refine HCn.out.mono ?_
      rintro ex w2b ⟨rfl, ew⟩
      have ew := ew.symm
      subst ew
      have HN3 := Lib.hid (next_any x.heap.size HD2.out HQ2.out (ts.count 0) (by omega))
      go_wp2_with fail
      refine HN3.out.mono ?_
      rintro ex w3 ⟨u3, rs, n3, r3, rfl, hr3, hc3, ho3, hb3, hg3⟩
      have hq3 := HQ2.out.kept hg3 (HQ2.out.ne HD2.out)
      have d1 : w3.cell? ⟨x.heap.size, 0, none⟩ = some (.pointer (some ⟨b, 0, none⟩)) := (blk_facts hq3).1 0
      have hz3 := hq3.lt
      have HR13 := Lib.hid (irow_kept HR12.out hg3 HD2.out.box (by decide))
      have HR23 := Lib.hid (irow_kept HR2.out hg3 HD2.out.box (by decide))
      have HR3 := Lib.hid hr3
      have HD3 := Lib.hid hc3
      have HO3 := Lib.hid ho3
      have HB3 := Lib.hid hb3
      have HG3 := Lib.hid (grownBy_trans HG2.out hg3 (.inl rfl))
      have HE3 := Lib.hid (cerr_any hc3)
      have HS3 := Lib.hid hg3.size
      have HQ3 := Lib.hid hq3
      clear hr3 hc3 ho3 hb3 hg3 HN3 HR12 HR2 hq3 HCn
      go_wp2_with fail
      refine HE3.out.mono ?_
      rintro ex w4 ⟨rfl, ew⟩
      have ew := ew.symm
      subst ew
      clear HE3
      obtain ⟨rfl, rfl⟩ := HB1.out HN2E.out
      obtain ⟨rfl, rfl⟩ := HB2.out HN2E.out
      obtain ⟨rfl, rfl⟩ := HB3.out HN2E.out
      have q7 : (r3 != 0) = true := by simpa using HN2E.out
      go_wp2_with fail
      go_ret
      exact ⟨_, [], _, r3, rfl, IRead.nil _ _, HD3.out, outc_error HJO.out HN2E.out, HG3.out⟩
    · have q3 : decide ((mm : Int) < 1) = false := decide_eq_false (by omega)
      have q4 : decide ((15 : Int) < (mm : Int)) = true := decide_eq_true (by omega)
      have q5 : decide (15 < mm) = true := decide_eq_true (by omega)
      have q6 : decide (mm < 1) = false := decide_eq_false (by omega)
      have HFl := Lib.hid (cfail_any 2 HC1.out)
      have HJO := Lib.hid hjo
      have HN2E := Lib.hid hne2
      clear hjo hne2
      go_wp2_with fail
      refine HFl.out.mono ?_
      rintro ex yb ⟨rfl, hcb, hgb⟩
      rw [hfe] at hcb
      have HPb := Lib.hid (HP1.out.kept hgb (HP1.out.ne HC1.out))
      have HCb := Lib.hid hcb
      have HGb := Lib.hid (grownBy_trans HG1.out hgb (.inl rfl))
      have db : yb.cell? ⟨x.heap.size, 0, none⟩ = some (.pointer (some ⟨b, 0, none⟩)) := (blk_facts HPb.out).1 0
      have hzb := HPb.out.lt
      clear hcb hgb HFl c1 hz1 HP1 HG1 HC1 hfe
      have HN1 := Lib.hid (next_any x.heap.size HCb.out HPb.out mm (by omega))
      go_wp2_with fail
      refine HN1.out.mono ?_
      rintro ex w1 ⟨u1, fs, n1, r1, rfl, hr1, hc1, ho1, hb1, hg1⟩
      have HQ1 := Lib.hid (HPb.out.kept hg1 (HPb.out.ne HCb.out))
      have HR1 := Lib.hid hr1
      have HD1 := Lib.hid hc1
      have HO1 := Lib.hid ho1
      have HB1 := Lib.hid hb1
      have HG1b := Lib.hid (grownBy_trans HGb.out hg1 (.inl rfl))
      clear hr1 hc1 ho1 hb1 hg1 HN1
      have HN2 := Lib.hid (next_any x.heap.size HD1.out HQ1.out k hk)
      go_wp2_with fail
      refine HN2.out.mono ?_
      rintro ex w2 ⟨u2, ts, n2, r2, rfl, hr2, hc2, ho2, hb2, hg2⟩
      have HQ2 := Lib.hid (HQ1.out.kept hg2 (HQ1.out.ne HD1.out))
      have HR12 := Lib.hid (irow_kept HR1.out hg2 HD1.out.box (by decide))
      have HR2 := Lib.hid hr2
      have HD2 := Lib.hid hc2
      have HO2 := Lib.hid ho2
      have HB2 := Lib.hid hb2
      have HG2 := Lib.hid (grownBy_trans HG1b.out hg2 (.inl rfl))
      have HS12 := Lib.hid hg2.size
      obtain ⟨A2, c2, rfl, hi2⟩ := hr2.reads
      have htl : ts.length ≤ 100000 := by
        by_cases h0 : r1 = 0
        · have g1 := outc_len (ho2 h0)
          rw [List.length_drop] at g1
          omega
        · rw [(hb2 h0).1]; simp
      have HCn := Lib.hid (bcount_any A2 c2 ts w2 hi2 (by omega))
      have hcl : ts.count 0 ≤ ts.length := List.count_le_length
      clear hr2 hc2 ho2 hb2 hg2 HN2 HR1 hi2
      go_wp2_with fail
      refine HCn.out.mono ?_
      rintro ex w2b ⟨rfl, ew⟩
      have ew := ew.symm
      subst ew
      have HN3 := Lib.hid (next_any x.heap.size HD2.out HQ2.out (ts.count 0) (by omega))
      go_wp2_with fail
      refine HN3.out.mono ?_
      rintro ex w3 ⟨u3, rs, n3, r3, rfl, hr3, hc3, ho3, hb3, hg3⟩
      have hq3 := HQ2.out.kept hg3 (HQ2.out.ne HD2.out)
      have d1 : w3.cell? ⟨x.heap.size, 0, none⟩ = some (.pointer (some ⟨b, 0, none⟩)) := (blk_facts hq3).1 0
      have hz3 := hq3.lt
      have HR13 := Lib.hid (irow_kept HR12.out hg3 HD2.out.box (by decide))
      have HR23 := Lib.hid (irow_kept HR2.out hg3 HD2.out.box (by decide))
      have HR3 := Lib.hid hr3
      have HD3 := Lib.hid hc3
      have HO3 := Lib.hid ho3
      have HB3 := Lib.hid hb3
      have HG3 := Lib.hid (grownBy_trans HG2.out hg3 (.inl rfl))
      have HE3 := Lib.hid (cerr_any hc3)
      have HS3 := Lib.hid hg3.size
      have HQ3 := Lib.hid hq3
      clear hr3 hc3 ho3 hb3 hg3 HN3 HR12 HR2 hq3 HCn
      go_wp2_with fail
      refine HE3.out.mono ?_
      rintro ex w4 ⟨rfl, ew⟩
      have ew := ew.symm
      subst ew
      clear HE3
      obtain ⟨rfl, rfl⟩ := HB1.out HN2E.out
      obtain ⟨rfl, rfl⟩ := HB2.out HN2E.out
      obtain ⟨rfl, rfl⟩ := HB3.out HN2E.out
      have q7 : (r3 != 0) = true := by simpa using HN2E.out
      go_wp2_with fail
      go_ret
      exact ⟨_, [], _, r3, rfl, IRead.nil _ _, HD3.out, outc_error HJO.out HN2E.out, HG3.out⟩
end
end Go.Proofs.YtkdamaomhppkgaaGreat

/- The walk of layer 26: a band that is read. -/
namespace Go.Proofs.YtkdamaomhppkgaaGreat
open Go.RowKit Pp

/-- What a band's reading comes to, whether there is an error ahead or not. -/
def BandRes (b : Nat) (A : Option Addr) (cc : Nat) (l : List UInt8) (n : Nat) (e : Int) (k : Int) (x : World) (ex : Ending) (y : World) : Prop :=
  ∃ (u : Value) (vs : List Int) (m : Nat) (e' : Int), ex = .returned u ∧ IRead y x.heap.size u vs ∧ CurS y b A cc l m e' ∧ (e = 0 → Outc (bandN k (l.drop n)) [] vs e' (l.drop m)) ∧ (e ≠ 0 → vs = [] ∧ e' = e) ∧ x.grownBy y (some b)
theorem bandN_out {k : Int} (h : k < 0 ∨ 16777216 < k) (r : List UInt8) : bandN k r = .error 1 := if_pos h
theorem bandN_in {k : Int} (h : ¬ (k < 0 ∨ 16777216 < k)) (r : List UInt8) : bandN k r = bandR k.toNat r := if_neg h
section
variable {x : World} {b : Nat} {A : Option Addr} {cc : Nat} {l : List UInt8} {n : Nat} {e : Int}
set_option maxHeartbeats 8000000 in
set_option maxRecDepth 100000 in
theorem bread_any (h : CurS x b A cc l n e) (k : Int) (hk : I64 k) (hl : l.length ≤ 100000) :
    Calls Tryz.prog 34 #[.pointer (some ⟨b, 0, none⟩), .int .i64 k] x (BandRes b A cc l n e k x) := by
  have H0 := Lib.hid h
  have hnl := h.le
  unfold I64 at hk
  by_cases hr : k < 0 ∨ 16777216 < k
  · have HFl := Lib.hid (cfail_any 1 h)
    have hn1 : fe e 1 ≠ 0 := by unfold fe; split <;> omega
    have hn2 := Lib.hid (show (e = 0 → fe e 1 = 1) ∧ (e ≠ 0 → fe e 1 = e) from ⟨fun h => by unfold fe; rw [if_pos h], fun h => by unfold fe; rw [if_neg h]⟩)
    have hfin := Lib.hid (bandN_out hr (l.drop n))
    have q9 : (fe e 1 != 0) = true := by simpa using hn1
    have HN1 := Lib.hid hn1
    clear h hn1
    have hcase : decide (k < 0) = true ∨ (decide (k < 0) = false ∧ decide (16777216 < k) = true) := by
      rcases hr with h | h
      · exact .inl (decide_eq_true h)
      · exact .inr ⟨decide_eq_false (by omega), decide_eq_true h⟩
    clear hr
    generalize fe e 1 = e1 at *
    rcases hcase with q1 | ⟨q1, q2⟩
    all_goals
      go_enter Tryz.func34, Tryz.ntmps34
      go_wp2_with fail
      refine HFl.out.mono ?_
      rintro ex y ⟨rfl, hc1, hg1⟩
      have HB := Lib.hid (cbig_bad hc1 HN1.out)
      have HE := Lib.hid (cerr_any hc1)
      have HC := Lib.hid hc1
      have HG := Lib.hid hg1
      clear hc1 hg1 HFl
      go_wp2_with fail
      refine HB.out.mono ?_
      rintro ex z ⟨rfl, ez⟩
      have ez := ez.symm
      subst ez
      go_wp2_with fail
      refine HE.out.mono ?_
      rintro ex z ⟨rfl, ez⟩
      have ez := ez.symm
      subst ez
      go_wp2_with fail
      go_ret
      exact ⟨_, [], n, e1, rfl, IRead.nil _ _, HC.out, fun h0 => by rw [hfin.out, hn2.out.1 h0]; exact ⟨rfl, by decide, rfl⟩, fun h0 => ⟨rfl, hn2.out.2 h0⟩, HG.out⟩
  · have q1 : decide (k < 0) = false := decide_eq_false (by omega)
    have q2 : decide (16777216 < k) = false := decide_eq_false (by omega)
    obtain ⟨j, rfl⟩ : ∃ j : Nat, k = (j : Int) := ⟨k.toNat, by omega⟩
    have hbn := Lib.hid (show ∀ r, bandN (j : Int) r = bandR j r from fun r => bandN_in hr r)
    clear hr
    by_cases he : e = 0
    · subst he
      by_cases hend : n < l.length
      · obtain ⟨a, ha⟩ : ∃ a, l[n]? = some a := ⟨_, List.getElem?_eq_getElem hend⟩
        have HB := Lib.hid (cbig_ok h ha)
        have hab := a.toNat_lt
        have hdr := Lib.hid (drop_atI ha)
        clear h ha
        go_enter Tryz.func34, Tryz.ntmps34
        go_wp2_with fail
        refine HB.out.mono ?_
        rintro ex z ⟨rfl, hc1, hg1⟩
        have HE := Lib.hid (cerr_any hc1)
        have HC1 := Lib.hid hc1
        have HG1 := Lib.hid hg1
        clear hc1 hg1 HB
        go_wp2_with fail
        refine HE.out.mono ?_
        rintro ex z2 ⟨rfl, ez⟩
        have ez := ez.symm
        subst ez
        clear HE
        by_cases h255 : a = 255
        · have q3 : ((a.toNat : Int) == 255) = true := by rw [h255]; rfl
          have hfin := Lib.hid (show bandN (j : Int) (l.drop n) = joinR j (l.drop (n + 1)) by rw [hbn.out, hdr.out, h255]; exact bandR_join _ _)
          have HJ := Lib.hid (joined_any HC1.out j (by omega) hl)
          clear h255
          go_wp2_with fail
          refine HJ.out.mono ?_
          rintro ex z3 ⟨u, vs, m, e', rfl, hr, hc2, ho, hg2⟩
          have HR := Lib.hid (hr.lower HG1.out.size)
          have HC := Lib.hid hc2
          have HO := Lib.hid ho
          have HG := Lib.hid (grownBy_trans HG1.out hg2 (.inl rfl))
          clear hr hc2 ho hg2 HJ
          go_wp2_with fail
          go_ret
          exact ⟨u, vs, m, e', rfl, HR.out, HC.out, fun _ => by rw [hfin.out]; exact HO.out, fun h => absurd rfl h, HG.out⟩
        · have hne : a.toNat ≠ 255 := fun e => h255 (UInt8.toNat_inj.1 (by rw [e]; rfl))
          have q3 : ((a.toNat : Int) == 255) = false := by simp; omega
          have hfin := Lib.hid (show bandN (j : Int) (l.drop n) = plainR a.toNat j (l.drop (n + 1)) by rw [hbn.out, hdr.out]; exact bandR_cons h255 _)
          have HJ := Lib.hid (bplain_any HC1.out a.toNat j (by omega) (by omega))
          clear h255 hne
          go_wp2_with fail
          refine HJ.out.mono ?_
          rintro ex z3 ⟨u, vs, m, e', rfl, hr, hc2, ho, hg2⟩
          have HR := Lib.hid ((IRead.of hr).lower HG1.out.size)
          have HC := Lib.hid hc2
          have HO := Lib.hid ho
          have HG := Lib.hid (grownBy_trans HG1.out hg2 (.inl rfl))
          clear hr hc2 ho hg2 HJ
          go_wp2_with fail
          go_ret
          exact ⟨u, vs, m, e', rfl, HR.out, HC.out, fun _ => by rw [hfin.out]; exact HO.out, fun h => absurd rfl h, HG.out⟩
      · have HB := Lib.hid (cbig_end h (by omega))
        have hfin := Lib.hid (show bandN (j : Int) (l.drop n) = .error 6 by rw [hbn.out, List.drop_of_length_le (by omega)]; rfl)
        clear h
        go_enter Tryz.func34, Tryz.ntmps34
        go_wp2_with fail
        refine HB.out.mono ?_
        rintro ex z ⟨rfl, hc1, hg1⟩
        have HE := Lib.hid (cerr_any hc1)
        have HC1 := Lib.hid hc1
        have HG1 := Lib.hid hg1
        clear hc1 hg1 HB
        go_wp2_with fail
        refine HE.out.mono ?_
        rintro ex z2 ⟨rfl, ez⟩
        have ez := ez.symm
        subst ez
        go_wp2_with fail
        go_ret
        exact ⟨_, [], _, 6, rfl, IRead.nil _ _, HC1.out, fun _ => outc_error hfin.out (by decide), fun h => absurd rfl h, HG1.out⟩
    · have HB := Lib.hid (cbig_bad h he)
      have HE := Lib.hid (cerr_any h)
      have q : (e != 0) = true := by simpa using he
      have HEN := Lib.hid he
      clear h he
      go_enter Tryz.func34, Tryz.ntmps34
      go_wp2_with fail
      refine HB.out.mono ?_
      rintro ex z ⟨rfl, ez⟩
      have ez := ez.symm
      subst ez
      go_wp2_with fail
      refine HE.out.mono ?_
      rintro ex z2 ⟨rfl, ez⟩
      have ez := ez.symm
      subst ez
      go_wp2_with fail
      go_ret
      exact ⟨_, [], n, e, rfl, IRead.nil _ _, H0.out, fun h => absurd h HEN.out, fun _ => ⟨rfl, rfl⟩, World.grownBy.refl _ _⟩
end
end Go.Proofs.YtkdamaomhppkgaaGreat

/- Layer 28 plain: a table that is written is read. No program. -/
namespace Go.Proofs.YtkdamaomhppkgaaGreat
open Pp

theorem rowGo_back (T : List Pv) (t : Int) (f : Pv → Int × Int) : ∀ (L : List Pv) (first : Bool) (p : Pv), (∀ v ∈ L, madeT T t (f v).1 (f v).2 = some v) → L.Pairwise Pv.lt → (first = false → ∀ v ∈ L, Pv.lt p v) → rowGo T t first p (L.map f) = .ok L
  | [], _, _, _, _, _ => by unfold rowGo; rfl
  | v :: L, first, p, h, hr, hp => by
    obtain ⟨h1, h2⟩ := List.pairwise_cons.1 hr
    rw [List.map_cons]
    unfold rowGo
    rw [h v (by simp)]
    dsimp only
    rw [if_neg (fun hh => hh.2 (hp hh.1 v (by simp))), rowGo_back T t f L false v (fun u hu => h u (by simp [hu])) h2 (fun _ => h1)]
/-- What the columns of a tag tell. -/
def tellT (O : List Pv) (t : Int) (v : Pv) : Int × Int := (if t = 3 ∨ t = 4 then 0 else tellA O v, if t = 7 ∨ t = 8 then 0 else tellB O v)
theorem colsR_back {O : List Pv} {t : Int} {s : List UInt8} (h : bandsW (colsW O t) = some s) (hl : (Pv.row O t).length ≤ 16777216) (r : List UInt8) : colsR t ((Pv.row O t).length : Int) (s ++ r) = .ok ((Pv.row O t).map (tellT O t), r) := by
  unfold colsW at h
  unfold colsR
  by_cases h3 : t = 3 ∨ t = 4
  · rw [if_pos h3] at h ⊢
    obtain ⟨a, b, h1, h2, rfl⟩ := bandsW_cons h
    have hb : b = [] := by unfold bandsW at h2; exact (Option.some.inj h2).symm
    subst hb
    have k := bandN_back h1 (by rw [List.length_map]; exact hl) r
    rw [List.length_map] at k
    rw [List.append_nil, k]
    dsimp only
    rw [List.map_map]
    congr 2
    refine List.map_congr_left fun v _ => ?_
    unfold tellT
    rw [if_pos h3, if_neg (by omega)]
    rfl
  · rw [if_neg h3] at h ⊢
    by_cases h7 : t = 7 ∨ t = 8
    · rw [if_pos h7] at h ⊢
      obtain ⟨a, b, h1, h2, rfl⟩ := bandsW_cons h
      have hb : b = [] := by unfold bandsW at h2; exact (Option.some.inj h2).symm
      subst hb
      have k := bandN_back h1 (by rw [List.length_map]; exact hl) r
      rw [List.length_map] at k
      rw [List.append_nil, k]
      dsimp only
      rw [List.map_map]
      congr 2
      refine List.map_congr_left fun v _ => ?_
      unfold tellT
      rw [if_neg h3, if_pos h7]
      rfl
    · rw [if_neg h7] at h ⊢
      obtain ⟨a, b, h1, h2, rfl⟩ := bandsW_cons h
      obtain ⟨c, d, h4, h5, rfl⟩ := bandsW_cons h2
      have hb : d = [] := by unfold bandsW at h5; exact (Option.some.inj h5).symm
      subst hb
      have k := bandN_back h1 (by rw [List.length_map]; exact hl) (c ++ r)
      have k2 := bandN_back h4 (by rw [List.length_map]; exact hl) r
      rw [List.length_map] at k k2
      rw [List.append_nil, List.append_assoc, k]
      dsimp only
      rw [k2]
      dsimp only
      rw [List.zip_map']
      congr 2
      refine List.map_congr_left fun v _ => ?_
      unfold tellT
      rw [if_neg h3, if_neg h7]
theorem row_row (O : List Pv) (t u : Int) : Pv.row (Pv.row O t) u = if u = t then Pv.row O t else [] := by
  unfold Pv.row
  by_cases h : u = t
  · subst h
    rw [if_pos rfl, List.filter_filter]
    refine List.filter_congr fun v _ => by simp
  · rw [if_neg h, List.filter_filter]
    refine List.filter_eq_nil_iff.2 fun v _ => ?_
    simp only [Bool.and_eq_true, decide_eq_true_eq]
    omega
/-- The rows of tags, one behind the other. -/
def rowsOf (O : List Pv) (us : List Int) : List Pv := us.flatMap (Pv.row O)
theorem row_rowsOf (O : List Pv) (u : Int) : ∀ {us : List Int}, us.Nodup → Pv.row (rowsOf O us) u = if u ∈ us then Pv.row O u else []
  | [], _ => by simp [rowsOf, Pv.row]
  | t :: us, hn => by
    obtain ⟨h1, h2⟩ := List.nodup_cons.1 hn
    unfold rowsOf
    rw [List.flatMap_cons, row_app, row_row]
    have ih := row_rowsOf O u h2
    unfold rowsOf at ih
    rw [ih]
    by_cases h : u = t
    · subst h
      rw [if_pos rfl, if_neg h1, if_pos (by simp), List.append_nil]
    · rw [if_neg h, List.nil_append]
      by_cases hu : u ∈ us
      · rw [if_pos hu, if_pos (by simp [hu])]
      · rw [if_neg hu, if_neg (by simp [h, hu])]
theorem tOrder_facts0 : ∀ k : Fin 10, (tOrder.getD k.val 0 ≠ 1 ∧ (tOrder.getD k.val 0 = 9 ∨ tOrder.getD k.val 0 = 10 ∨ tOrder.getD k.val 0 = 11 → 7 ∈ (1 : Int) :: tOrder.take k.val ∧ 12 ∈ (1 : Int) :: tOrder.take k.val) ∧ ((1 : Int) :: tOrder.take k.val).Nodup) := by decide
theorem tOrder_facts (k : Fin 10) (t : Int) (ht : tOrder[k.val]? = some t) : t ≠ 1 ∧ (t = 9 ∨ t = 10 ∨ t = 11 → 7 ∈ (1 : Int) :: tOrder.take k.val ∧ 12 ∈ (1 : Int) :: tOrder.take k.val) ∧ ((1 : Int) :: tOrder.take k.val).Nodup := by
  have h := tOrder_facts0 k
  have e : tOrder.getD k.val 0 = t := by rw [List.getD_eq_getElem?_getD, ht]; rfl
  rw [e] at h
  exact h
theorem rowR_back {O : List Pv} (hO : Tbl O) (hbits : ∀ v ∈ O, v.bits < 18446744073709551616) {k : Fin 10} {t : Int} (ht : tOrder[k.val]? = some t) {s : List UInt8} (h : bandsW (colsW O t) = some s) (hl : (Pv.row O t).length ≤ 16777216) (r : List UInt8) :
    rowR (rowsOf O (1 :: tOrder.take k.val)) t ((Pv.row O t).length : Int) (s ++ r) = .ok (Pv.row O t, r) := by
  obtain ⟨h1, h7, hnd⟩ := tOrder_facts k t ht
  unfold rowR
  rw [colsR_back h hl r]
  dsimp only
  rw [rowGo_back _ t (tellT O t) (Pv.row O t) true Pv.zero (fun v hv => ?_) (List.Pairwise.filter _ hO.rises) (fun h => by cases h)]
  obtain ⟨hvO, hvt⟩ := mem_row.1 hv
  subst hvt
  refine made_back hO hvO (by rw [row_rowsOf O 1 hnd, if_pos (by simp)]) (fun h9 => ?_) h1 ?_ ?_ ?_ (hbits v hvO)
  · obtain ⟨a, b⟩ := h7 h9
    exact ⟨by rw [row_rowsOf O 7 hnd, if_pos a], by rw [row_rowsOf O 12 hnd, if_pos b]⟩
  · unfold tellT
    by_cases c : v.tag = 3 ∨ v.tag = 4
    · exact .inr c
    · exact .inl (if_neg c)
  · intro c
    unfold tellT
    exact if_pos c
  · unfold tellT
    by_cases c : v.tag = 7 ∨ v.tag = 8
    · exact .inr c
    · exact .inl (if_neg c)
theorem tblGo_back {O : List Pv} (hO : Tbl O) (hbits : ∀ v ∈ O, v.bits < 18446744073709551616) (hl : ∀ t, (Pv.row O t).length ≤ 16777216) (r : List UInt8) : ∀ (j k : Nat), k + j = 10 → ∀ s, bandsW ((tOrder.drop k).flatMap (colsW O)) = some s →
    tblGo (rowsOf O (1 :: tOrder.take k)) (tOrder.drop k) ((tOrder.drop k).map fun t => ((Pv.row O t).length : Int)) (s ++ r) = .ok (rowsOf O (1 :: tOrder), r)
  | 0, k, hk, s, h => by
    obtain rfl : k = 10 := by omega
    have e : tOrder.drop 10 = [] := rfl
    rw [e] at h ⊢
    have hs : s = [] := by simp [bandsW] at h; exact h
    subst hs
    unfold tblGo
    rfl
  | j + 1, k, hk, s, h => by
    have hk10 : k < 10 := by omega
    obtain ⟨t, ht⟩ : ∃ t, tOrder[k]? = some t := ⟨_, List.getElem?_eq_getElem (show k < tOrder.length from hk10)⟩
    obtain ⟨hk2, ht2⟩ := List.getElem?_eq_some_iff.1 ht
    have hd : tOrder.drop k = t :: tOrder.drop (k + 1) := by rw [List.drop_eq_getElem_cons hk2, ht2]
    have htk : tOrder.take (k + 1) = tOrder.take k ++ [t] := by rw [List.take_succ_eq_append_getElem hk2, ht2]
    rw [hd, List.flatMap_cons] at h
    obtain ⟨a, b, h1, h2, rfl⟩ := bandsW_app h
    have k1 := rowR_back hO hbits (k := ⟨k, hk10⟩) ht h1 (hl t) (b ++ r)
    have ih := tblGo_back hO hbits hl r j (k + 1) (by omega) b h2
    have e : rowsOf O (1 :: tOrder.take k) ++ Pv.row O t = rowsOf O (1 :: tOrder.take (k + 1)) := by
      rw [htk]
      unfold rowsOf
      simp only [List.flatMap_cons, List.flatMap_append, List.flatMap_nil, List.append_nil, List.append_assoc]
    rw [hd, List.map_cons, List.append_assoc]
    unfold tblGo
    rw [k1]
    dsimp only
    rw [e]
    exact ih
theorem texts_back {O : List Pv} (hO : Tbl O) : (texts O).map Pv.ofText = Pv.row O 1 := by
  unfold texts
  rw [List.map_map]
  conv => rhs; rw [← List.map_id (Pv.row O 1)]
  refine List.map_congr_left fun v hv => ?_
  obtain ⟨h1, h2⟩ := mem_row.1 hv
  have hc := hO.ok v h1
  obtain ⟨tag, text, bits, cls, name, desc⟩ := v
  dsimp only at h2
  subst h2
  unfold Pv.chk at hc
  dsimp only at hc
  rw [if_pos (by omega)] at hc
  by_cases hz : bits = 0 ∧ cls = [] ∧ name = [] ∧ desc = []
  · obtain ⟨rfl, rfl, rfl, rfl⟩ := hz
    rfl
  · rw [if_neg hz] at hc; exact absurd hc (by decide)
theorem tblR_eq {most : Int} {x r0 r1 : List UInt8} {ss : List (List UInt8)} {ns : List Int} {o : Except Int (List Pv × List UInt8)} (h1 : wordsR most x = .ok (ss, r0)) (h2 : bandN 10 r0 = .ok (ns, r1)) (h3 : tblGo (ss.map Pv.ofText) tOrder ns r1 = o) : tblR most x = o := by
  unfold tblR
  rw [h1]
  dsimp only
  rw [h2]
  exact h3
/-- A table that is written is read, with just that room. -/
theorem tbl_back {O : List Pv} (hO : Tbl O) (hbits : ∀ v ∈ O, v.bits < 18446744073709551616) (hl : O.length ≤ 16777216) {x : List UInt8} (h : tblW O = some x) (he : wordsE (texts O) = 0) {most : Int} (hm : (sumL (texts O) : Int) ≤ most) (hmost : most ≤ 16777216) (r : List UInt8) :
    tblR most (x ++ r) = .ok (rowsOf O (1 :: tOrder), r) := by
  obtain ⟨a, s, hw, hb, rfl⟩ := join2_some (show join2 (wordsB (texts O)) (bandsW (rowsW O)) = some x from h)
  obtain ⟨b, c, h1, h2, rfl⟩ := bandsW_cons (x := tOrder.map fun t => ((Pv.row O t).length : Int)) (xs := tOrder.flatMap (colsW O)) hb
  have k0 := words_back hw he hm hmost (b ++ (c ++ r))
  have k1 := bandN_back h1 (by rw [List.length_map]; have h9 : tOrder.length = 10 := rfl; omega) (c ++ r)
  rw [List.length_map, show ((tOrder.length : Nat) : Int) = 10 from rfl] at k1
  have hrl : ∀ t, (Pv.row O t).length ≤ 16777216 := fun t => Nat.le_trans (row_len O t) hl
  have k2 := tblGo_back hO hbits hrl r 10 0 rfl c h2
  have e : rowsOf O (1 :: tOrder.take 0) = Pv.row O 1 := by simp [rowsOf]
  rw [e] at k2
  have e2 : a ++ (b ++ c) ++ r = a ++ (b ++ (c ++ r)) := by simp only [List.append_assoc]
  rw [e2]
  exact tblR_eq k0 k1 (by rw [texts_back hO]; exact k2)
end Go.Proofs.YtkdamaomhppkgaaGreat

/- Layer 28 plain: what is read of any bytes rises, is as it may be, and has what it needs. No program. -/
namespace Go.Proofs.YtkdamaomhppkgaaGreat
open Pp

theorem chk_text {x : Pv} (h : x.chk 0 9 5 = 0) (ht : x.tag = 1) : x = Pv.ofText x.text := by
  obtain ⟨tag, text, bits, cls, name, desc⟩ := x
  dsimp only at ht
  subst ht
  unfold Pv.chk at h
  dsimp only at h
  rw [if_pos (by omega)] at h
  by_cases hz : bits = 0 ∧ cls = [] ∧ name = [] ∧ desc = []
  · obtain ⟨rfl, rfl, rfl, rfl⟩ := hz
    rfl
  · rw [if_neg hz] at h; exact absurd h (by decide)
theorem chk_cls {x : Pv} (h : x.chk 0 9 5 = 0) (ht : x.tag = 7) : x = Pv.ofCls x.text := by
  obtain ⟨tag, text, bits, cls, name, desc⟩ := x
  dsimp only at ht
  subst ht
  unfold Pv.chk at h
  dsimp only at h
  rw [if_pos (by omega)] at h
  by_cases hz : bits = 0 ∧ cls = [] ∧ name = [] ∧ desc = []
  · obtain ⟨rfl, rfl, rfl, rfl⟩ := hz
    rfl
  · rw [if_neg hz] at h; exact absurd h (by decide)
theorem chk_pair {x : Pv} (h : x.chk 0 9 5 = 0) (ht : x.tag = 12) : x = Pv.ofPair x.name x.desc := by
  obtain ⟨tag, text, bits, cls, name, desc⟩ := x
  dsimp only at ht
  subst ht
  unfold Pv.chk at h
  dsimp only at h
  rw [if_neg (by omega), if_neg (by omega), if_pos rfl] at h
  by_cases hz : text = [] ∧ bits = 0 ∧ cls = []
  · obtain ⟨rfl, rfl, rfl⟩ := hz
    rfl
  · rw [if_neg hz] at h; exact absurd h (by decide)
theorem atT_mem {T : List Pv} {t i : Int} {x : Pv} (h : atT T t i = some x) : x ∈ T ∧ x.tag = t := by
  unfold atT at h
  split at h
  · cases h
  · exact mem_row.1 (List.mem_of_getElem? h)
def readT (t : Int) : Prop := t = 3 ∨ t = 4 ∨ t = 5 ∨ t = 6 ∨ t = 7 ∨ t = 8 ∨ t = 12 ∨ t = 9 ∨ t = 10 ∨ t = 11
theorem made_facts {T : List Pv} (hT : ∀ v ∈ T, v.chk 0 9 5 = 0) {t a b : Int} {v : Pv} (h : madeT T t a b = some v) (ht : readT t) (h3 : t = 3 ∨ t = 4 → a = 0) :
    v.tag = t ∧ v.chk 0 9 5 = 0 ∧ v.bits < 18446744073709551616 ∧ ∀ x ∈ v.needs, x ∈ T := by
  unfold readT at ht
  unfold madeT at h
  by_cases c7 : t = 7 ∨ t = 8
  · rw [if_pos c7] at h
    cases hx : atT T 1 a with
    | none => rw [hx] at h; cases h
    | some x =>
      rw [hx] at h
      obtain rfl := (Option.some.inj h).symm
      obtain ⟨m1, m2⟩ := atT_mem hx
      have e := chk_text (hT x m1) m2
      refine ⟨rfl, ?_, (by show 0 < 18446744073709551616; omega), fun y hy => ?_⟩
      · unfold Pv.chk; dsimp only; rw [if_pos (by omega), if_pos ⟨rfl, rfl, rfl, rfl⟩]
      · unfold Pv.needs at hy
        dsimp only at hy
        rw [if_pos c7] at hy
        rw [List.mem_singleton.1 hy, ← e]
        exact m1
  · rw [if_neg c7] at h
    by_cases c12 : t = 12
    · rw [if_pos c12] at h
      cases hx : atT T 1 a with
      | none => rw [hx] at h; cases h
      | some x =>
        cases hy : atT T 1 b with
        | none => rw [hx, hy] at h; cases h
        | some y =>
          rw [hx, hy] at h
          obtain rfl := (Option.some.inj h).symm
          obtain ⟨m1, m2⟩ := atT_mem hx
          obtain ⟨n1, n2⟩ := atT_mem hy
          have e := chk_text (hT x m1) m2
          have e2 := chk_text (hT y n1) n2
          refine ⟨rfl, ?_, (by show 0 < 18446744073709551616; omega), fun z hz => ?_⟩
          · unfold Pv.chk; dsimp only; rw [if_neg (by omega), if_neg (by omega), if_pos c12, if_pos ⟨rfl, rfl, rfl⟩]
          · unfold Pv.needs at hz
            dsimp only at hz
            rw [if_neg c7, if_pos c12] at hz
            rcases List.mem_cons.1 hz with h9 | h9
            · rw [h9, ← e]; exact m1
            · rw [List.mem_singleton.1 h9, ← e2]; exact n1
    · rw [if_neg c12] at h
      by_cases c9 : t = 9 ∨ t = 10 ∨ t = 11
      · rw [if_pos c9] at h
        cases hx : atT T 7 a with
        | none => rw [hx] at h; cases h
        | some x =>
          cases hy : atT T 12 b with
          | none => rw [hx, hy] at h; cases h
          | some y =>
            rw [hx, hy] at h
            obtain rfl := (Option.some.inj h).symm
            obtain ⟨m1, m2⟩ := atT_mem hx
            obtain ⟨n1, n2⟩ := atT_mem hy
            have e := chk_cls (hT x m1) m2
            have e2 := chk_pair (hT y n1) n2
            refine ⟨rfl, ?_, (by show 0 < 18446744073709551616; omega), fun z hz => ?_⟩
            · unfold Pv.chk; dsimp only; rw [if_neg (by omega), if_neg (by omega), if_neg c12, if_pos c9, if_pos ⟨rfl, rfl⟩]
            · unfold Pv.needs at hz
              dsimp only at hz
              rw [if_neg c7, if_neg c12, if_pos c9] at hz
              rcases List.mem_cons.1 hz with h9 | h9
              · rw [h9, ← e]; exact m1
              · rw [List.mem_singleton.1 h9, ← e2]; exact n1
      · rw [if_neg c9] at h
        obtain rfl := (Option.some.inj h).symm
        have c3 : t = 3 ∨ t = 4 ∨ t = 5 ∨ t = 6 := by omega
        refine ⟨rfl, ?_, ?_, fun z hz => ?_⟩
        · unfold Pv.chk
          dsimp only
          rw [if_neg (by omega), if_pos c3, if_pos ⟨rfl, rfl, rfl, rfl⟩, if_neg]
          rintro ⟨c4, hb⟩
          have h0 := h3 c4
          subst h0
          omega
        · show (a % 4294967296).toNat * 4294967296 + (b % 4294967296).toNat < 18446744073709551616
          omega
        · unfold Pv.needs at hz
          dsimp only at hz
          rw [if_neg c7, if_neg c12, if_neg c9] at hz
          cases hz
theorem rowGo_facts {T : List Pv} (hT : ∀ v ∈ T, v.chk 0 9 5 = 0) {t : Int} (ht : readT t) : ∀ (cs : List (Int × Int)) (first : Bool) (p : Pv) (L : List Pv), (t = 3 ∨ t = 4 → ∀ c ∈ cs, c.1 = 0) → rowGo T t first p cs = .ok L →
    (∀ v ∈ L, v.tag = t ∧ v.chk 0 9 5 = 0 ∧ v.bits < 18446744073709551616 ∧ ∀ x ∈ v.needs, x ∈ T) ∧ L.Pairwise Pv.lt ∧ (first = false → ∀ v ∈ L, Pv.lt p v)
  | [], first, p, L, _, h => by
    unfold rowGo at h
    cases h
    exact ⟨fun v hv => (by cases hv), .nil, fun _ v hv => (by cases hv)⟩
  | c :: cs, first, p, L, hc, h => by
    unfold rowGo at h
    cases hm : madeT T t c.1 c.2 with
    | none => rw [hm] at h; cases h
    | some v =>
      rw [hm] at h
      dsimp only at h
      split at h
      · cases h
      · rename_i hlt
        cases hg : rowGo T t false v cs with
        | error e => rw [hg] at h; cases h
        | ok l =>
          rw [hg] at h
          cases h
          obtain ⟨i1, i2, i3⟩ := rowGo_facts hT ht cs false v l (fun h9 c hc' => hc h9 c (by simp [hc'])) hg
          have hv := made_facts hT hm ht (fun h9 => hc h9 c (by simp))
          refine ⟨fun u hu => ?_, List.pairwise_cons.2 ⟨i3 rfl, i2⟩, fun hf u hu => ?_⟩
          · rcases List.mem_cons.1 hu with rfl | hu
            · exact hv
            · exact i1 u hu
          · have hpv : Pv.lt p v := Classical.not_not.1 fun hn => hlt ⟨hf, hn⟩
            rcases List.mem_cons.1 hu with rfl | hu
            · exact hpv
            · exact Pv.lin.trans _ _ _ hpv (i3 rfl u hu)
theorem colsR_zero {t n : Int} {r r1 : List UInt8} {cs : List (Int × Int)} (h : colsR t n r = .ok (cs, r1)) (ht : t = 3 ∨ t = 4) : ∀ c ∈ cs, c.1 = 0 := by
  unfold colsR at h
  rw [if_pos ht] at h
  cases hb : bandN n r with
  | error e => rw [hb] at h; cases h
  | ok q =>
    rw [hb] at h
    cases h
    intro c hc
    obtain ⟨y, _, rfl⟩ := List.mem_map.1 hc
    rfl
/-- What is read so far. -/
structure Part (T : List Pv) : Prop where
  ok : ∀ v ∈ T, v.chk 0 9 5 = 0
  bits : ∀ v ∈ T, v.bits < 18446744073709551616
  closed : ∀ v ∈ T, ∀ x ∈ v.needs, x ∈ T
  rise : ∀ t, (Pv.row T t).Pairwise Pv.lt
theorem row_only {L : List Pv} {t : Int} (h : ∀ v ∈ L, v.tag = t) (u : Int) : Pv.row L u = if u = t then L else [] := by
  unfold Pv.row
  by_cases hu : u = t
  · subst hu
    rw [if_pos rfl]
    exact List.filter_eq_self.2 fun v hv => by simp [h v hv]
  · rw [if_neg hu]
    refine List.filter_eq_nil_iff.2 fun v hv => ?_
    rw [decide_eq_true_eq, h v hv]
    exact fun e => hu e.symm
theorem rowR_part {T : List Pv} (hT : Part T) {t n : Int} (ht : readT t) (h0 : Pv.row T t = []) {r r1 : List UInt8} {L : List Pv} (h : rowR T t n r = .ok (L, r1)) : Part (T ++ L) ∧ ∀ v ∈ L, v.tag = t := by
  unfold rowR at h
  cases hc : colsR t n r with
  | error e => rw [hc] at h; cases h
  | ok q =>
    obtain ⟨cs, r2⟩ := q
    rw [hc] at h
    dsimp only at h
    cases hg : rowGo T t true Pv.zero cs with
    | error e => rw [hg] at h; cases h
    | ok l =>
      rw [hg] at h
      cases h
      obtain ⟨i1, i2, _⟩ := rowGo_facts hT.ok ht cs true Pv.zero L (fun h9 => colsR_zero hc h9) hg
      refine ⟨⟨fun v hv => ?_, fun v hv => ?_, fun v hv x hx => ?_, fun u => ?_⟩, fun v hv => (i1 v hv).1⟩
      · rcases List.mem_append.1 hv with hv | hv
        · exact hT.ok v hv
        · exact (i1 v hv).2.1
      · rcases List.mem_append.1 hv with hv | hv
        · exact hT.bits v hv
        · exact (i1 v hv).2.2.1
      · rcases List.mem_append.1 hv with hv | hv
        · exact List.mem_append_left _ (hT.closed v hv x hx)
        · exact List.mem_append_left _ ((i1 v hv).2.2.2 x hx)
      · rw [row_app, row_only (fun v hv => (i1 v hv).1) u]
        by_cases hu : u = t
        · subst hu
          rw [if_pos rfl, h0, List.nil_append]
          exact i2
        · rw [if_neg hu, List.append_nil]
          exact hT.rise u
theorem tblGo_part : ∀ (ts ns : List Int) (T : List Pv) (r : List UInt8) (T' : List Pv) (r' : List UInt8), Part T → ts.Nodup → (∀ t ∈ ts, readT t ∧ Pv.row T t = []) → tblGo T ts ns r = .ok (T', r') → Part T'
  | [], ns, T, r, T', r', hT, _, _, h => by unfold tblGo at h; cases h; exact hT
  | t :: ts, [], T, r, T', r', hT, _, _, h => by unfold tblGo at h; cases h; exact hT
  | t :: ts, n :: ns, T, r, T', r', hT, hn, ht, h => by
    unfold tblGo at h
    obtain ⟨n1, n2⟩ := List.nodup_cons.1 hn
    obtain ⟨a1, a2⟩ := ht t (by simp)
    cases hr : rowR T t n r with
    | error e => rw [hr] at h; cases h
    | ok q =>
      obtain ⟨L, r1⟩ := q
      rw [hr] at h
      dsimp only at h
      obtain ⟨p1, p2⟩ := rowR_part hT a1 a2 hr
      refine tblGo_part ts ns _ r1 T' r' p1 n2 (fun u hu => ⟨(ht u (by simp [hu])).1, ?_⟩) h
      rw [row_app, (ht u (by simp [hu])).2, row_only p2 u, if_neg (fun e : u = t => n1 (e ▸ hu))]
      rfl
theorem part_texts {ss : List (List UInt8)} (h : risesL ss) : Part (ss.map Pv.ofText) := by
  have ht : ∀ v ∈ ss.map Pv.ofText, v.tag = 1 := fun v hv => by obtain ⟨s, _, rfl⟩ := List.mem_map.1 hv; rfl
  refine ⟨fun v hv => ?_, fun v hv => ?_, fun v hv x hx => ?_, fun u => ?_⟩
  · obtain ⟨s, _, rfl⟩ := List.mem_map.1 hv
    simp [Pv.chk, Pv.ofText]
  · obtain ⟨s, _, rfl⟩ := List.mem_map.1 hv
    simp [Pv.ofText]
  · obtain ⟨s, _, rfl⟩ := List.mem_map.1 hv
    rw [Pv.needs_text] at hx
    cases hx
  · rw [row_only ht u]
    by_cases hu : u = 1
    · rw [if_pos hu]
      clear hu ht
      have hp : ∀ (ss : List (List UInt8)), risesL ss → ss.Pairwise (· < ·) := by
        intro ss
        induction ss with
        | nil => intro _; exact .nil
        | cons a l ih =>
          intro h
          cases l with
          | nil => exact List.pairwise_singleton _ _
          | cons b l =>
            have h2 := ih h.2
            refine List.pairwise_cons.2 ⟨fun c hc => ?_, h2⟩
            rcases List.mem_cons.1 hc with rfl | hc
            · exact h.1
            · exact List.lt_trans h.1 ((List.pairwise_cons.1 h2).1 c hc)
      refine List.Pairwise.map _ (fun a b hab => ?_) (hp ss h)
      exact .inr ⟨rfl, .inl hab⟩
    · rw [if_neg hu]
      exact .nil
end Go.Proofs.YtkdamaomhppkgaaGreat
