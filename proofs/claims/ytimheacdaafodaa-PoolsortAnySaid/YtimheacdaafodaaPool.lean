/- The walks of layer 19: a pool's numbers, and its constants, by the program. -/
import Derived.Test.YtimheacdaafodaaNew
import Derived.Test.YtimheacdaafodaaRaws
import Derived.Test.YtimheacdaafodaaRRaw
import Derived.Test.YtimheacdaafodaaClosure
import Derived.BigRegion
namespace Go.Proofs.Ytimheacdaafodaa
open Go.RowKit Go.Maps

set_option maxRecDepth 100000 in
theorem pnumber_nil (v : Pv) (w : World) : Calls Try.prog 10 #[.pointer none, vv v] w fun e w' => e = .returned (.int .i64 0) ∧ Below w.heap.size w w' := by
  have k0 := Lib.hid ((Below.refl w.heap.size w).alloc (Nat.le_refl _) (.cells #[.int .i64 v.tag, .string (bs v.text), .int .u64 v.bits, .string (bs v.cls), .string (bs v.name), .string (bs v.desc)] 25))
  unfold vv
  go_enter Try.func10, Try.ntmps10
  go_wp2
  go_ret
  exact ⟨rfl, k0.out⟩
set_option maxRecDepth 100000 in
set_option maxHeartbeats 2000000 in
theorem pnumber_any (base b m n : Nat) (u : Value) (O : List Pv) (v : Pv) (w : World) (hp : PoolS w base b u m n O) (hv : v.fitsK) :
    Calls Try.prog 10 #[.pointer (some ⟨b, 0, none⟩), vv v] w fun e w' => e = .returned (.int .i64 (Pv.num O v : Nat)) ∧ Below w.heap.size w w' := by
  have k0 := Lib.hid ((Below.refl w.heap.size w).alloc (Nat.le_refl _) (.cells #[.int .i64 v.tag, .string (bs v.text), .int .u64 v.bits, .string (bs v.cls), .string (bs v.name), .string (bs v.desc)] 25))
  have q0 := Lib.hid (vbox_new w v)
  have hp1 := hp.grow k0.out
  have m1 := (blk_facts hp1.box).1 1
  have hbz := hp.lt
  have hlk := fun q => VNum.look (show VNum ((w.alloc (.cells #[.int .i64 v.tag, .string (bs v.text), .int .u64 v.bits, .string (bs v.cls), .string (bs v.name), .string (bs v.desc)] 25)).drewN q) m n _ from hp1.num) hv
  have hbne : ¬ b = w.heap.size := by omega
  clear hp hp1
  unfold vv at hlk ⊢
  go_enter Try.func10, Try.ntmps10
  go_wp2_with fail
  go_quiet (fail)
  go_wp2
  go_ret
  exact ⟨rfl, below_drewN k0.out _⟩
set_option maxRecDepth 100000 in
theorem praw_nil (w : World) : Calls Try.prog 11 #[.pointer none] w fun e w' => e = .returned (.slice none 0 0) ∧ w = w' := by
  go_enter Try.func11, Try.ntmps11
  go_wp2
  go_ret
  exact ⟨rfl, rfl⟩
theorem Pv.rawOf_nil {v : Pv} (h : v.needs = []) (nm : Pv → Nat) : v.rawOf nm = ⟨v.tag, v.text, v.bits, 0, 0⟩ := by unfold Pv.rawOf; rw [h]
theorem Pv.rawOf_one {v x : Pv} (h : v.needs = [x]) (nm : Pv → Nat) : v.rawOf nm = ⟨v.tag, [], v.bits, nm x, 0⟩ := by unfold Pv.rawOf; rw [h]
theorem Pv.rawOf_two {v x y : Pv} (h : v.needs = [x, y]) (nm : Pv → Nat) : v.rawOf nm = ⟨v.tag, [], v.bits, nm x, nm y⟩ := by unfold Pv.rawOf; rw [h]
theorem wide_needs {v : Pv} (h : v.wide = true) : v.needs = [] := by
  unfold Pv.wide at h
  simp only [Bool.or_eq_true, beq_iff_eq] at h
  unfold Pv.needs
  rcases h with h | h <;> simp [h]
theorem raw1_snoc {O : List Pv} {i : Nat} {v : Pv} (h : O[i]? = some v) (nm : Pv → Nat) : (O.take (i + 1)).flatMap (Pv.raw1 nm) = (O.take i).flatMap (Pv.raw1 nm) ++ v.raw1 nm := by
  obtain ⟨h1, rfl⟩ := List.getElem?_eq_some_iff.1 h
  rw [List.take_succ_eq_append_getElem h1, List.flatMap_append]
  simp
theorem raw1_len (l : List Pv) (nm : Pv → Nat) : (l.flatMap (Pv.raw1 nm)).length ≤ 2 * l.length := by
  induction l with
  | nil => simp
  | cons x l ih =>
    have : (x.raw1 nm).length ≤ 2 := by unfold Pv.raw1; split <;> simp
    simp only [List.flatMap_cons, List.length_append, List.length_cons]; omega
theorem numkept {w w1 : World} {b n c : Nat} {f : Pv → Int} (h : VNum w b n f) (hne : b ≠ c) (k : w.grownBy w1 (some c)) : VNum w1 b n f := h.kept k (fun e => hne (Option.some.inj e))
theorem app_boxR {X X' x : World} {base c : Nat} {u : Value} {o' : Option Nat} {P : List Rw} {v : Pv} (hp : Hop X' x u.ownBlock o') (k : Below X.heap.size X X') (hu : RRow X base u P) (hq : VBox X c v) : x.cell? ⟨c, 0, none⟩ = some (.int .i64 v.tag) ∧ c < x.heap.size := by
  have h1 : VBox X' c v := hq.keep k hq.lt
  have h2 : VBox x c v := (hp.1.block c h1.lt (own_ne (hu.grow k) h1 (by decide))).trans h1
  exact ⟨h2.at_.1, h2.lt⟩
set_option maxRecDepth 100000 in
set_option maxHeartbeats 8000000 in
theorem praw_any (base b m n : Nat) (u : Value) (O : List Pv) (w : World) (hp : PoolS w base b u m n O) (hn : O.length ≤ 100000) (hf : ∀ v ∈ O, v.fits) :
    Calls Try.prog 11 #[.pointer (some ⟨b, 0, none⟩)] w fun e w' => ∃ u', e = .returned u' ∧ RRow w' w.heap.size u' (Pv.raws O) ∧ Below w.heap.size w w' := by
  obtain ⟨A0, c0, e0, hV0, hA0⟩ := hp.row.reads
  subst e0
  have HP := Lib.hid hp
  have HV := Lib.hid hV0
  have HFT := Lib.hid hf
  have m0 := (blk_facts hp.box).1 0
  have hbz := hp.lt
  have kz := Lib.hid ((Below.refl w.heap.size w).alloc (Nat.le_refl _) (.cells #[.int .i64 0, .string ⟨#[]⟩, .int .u64 0, .int .i64 0, .int .i64 0] 49))
  have m0' : (w.alloc (.cells #[.int .i64 0, .string ⟨#[]⟩, .int .u64 0, .int .i64 0, .int .i64 0] 49)).cell? ⟨b, 0, none⟩ = some (.slice A0 O.length c0) := ((kz.out.cell (p := ⟨b, 0, none⟩) hbz).trans m0)
  clear hp hV0 hA0 hf m0
  go_enter Try.func11, Try.ntmps11
  go_wp2_with fail
  have HST := Lib.hid (show ∃ i : Nat, i ≤ O.length ∧ (Value.int .i64 0) = .int .i64 i ∧ RRow (w.alloc (.cells #[.int .i64 0, .string ⟨#[]⟩, .int .u64 0, .int .i64 0, .int .i64 0] 49)) w.heap.size (.slice (some ⟨w.heap.size, 0, none⟩) 1 1) (Rw.zero :: (O.take i).flatMap (Pv.raw1 (Pv.num O))) ∧ Below w.heap.size w (w.alloc (.cells #[.int .i64 0, .string ⟨#[]⟩, .int .u64 0, .int .i64 0, .int .i64 0] 49)) from
    ⟨0, Nat.zero_le _, rfl, rrow_of_block (heap_alloc_new _ _) (Nat.le_refl _) [Rw.zero] rfl rfl (by simp), kz.out⟩)
  clear m0' kz
  go_loopw [3, 17] (fun r t wr => ∃ i : Nat, i ≤ O.length ∧ t = .int .i64 i ∧ RRow wr w.heap.size r (Rw.zero :: (O.take i).flatMap (Pv.raw1 (Pv.num O))) ∧ Below w.heap.size w wr) (fun _ t _ => O.length - (intOf t).toNat)
  case atStart => exact HST.out
  case round =>
    clear HST
    obtain ⟨i, hil, rfl, hr, hB⟩ := hrel
    have MR := Lib.hid hr
    have MB := Lib.hid hB
    clear hr hB
    by_cases hi : i < O.length
    · obtain ⟨g, o, v, e1, hg, hv, c1, c2, c3, c4, c5, c6⟩ := (HV.out.grow MB.out).at_ hi
      subst e1
      have p1 : decide ((i : Int) < (O.length : Int)) = true := decide_eq_true (by omega)
      have p2 : decide (i < O.length) = true := decide_eq_true hi
      have hsn := raw1_snoc hv (Pv.num O)
      have hal := raw1_len (O.take i) (Pv.num O)
      rw [List.length_take] at hal
      have hal2 : (Rw.zero :: (O.take i).flatMap (Pv.raw1 (Pv.num O))).length ≤ 200001 := by rw [List.length_cons]; omega
      have HK1 := Lib.hid (fun x (hx : x ∈ v.needs) => (Pv.fits_needs (HFT.out v (List.mem_of_getElem? hv)) hx).k)
      have HSN := Lib.hid hsn
      have hnd0 := fun w => needs_any v w
      unfold vv at hnd0
      have HND := Lib.hid hnd0
      clear hsn hal hv hnd0
      generalize (O.take i).flatMap (Pv.raw1 (Pv.num O)) = acc at *
      have k1 := (Below.refl wr.heap.size wr).alloc (Nat.le_refl _) (.cells #[.int .i64 v.tag, .string (bs v.text), .int .u64 v.bits, .string (bs v.cls), .string (bs v.name), .string (bs v.desc)] 25)
      have k2 := Lib.hid (k1.alloc k1.size (.cells #[.int .i64 v.tag, .string ⟨#[]⟩, .int .u64 v.bits, .int .i64 0, .int .i64 0] 49))
      have q1 := Lib.hid ((vbox_new wr v).keep ((Below.refl _ _).alloc (Nat.le_refl _) (.cells #[.int .i64 v.tag, .string ⟨#[]⟩, .int .u64 v.bits, .int .i64 0, .int .i64 0] 49)) (vbox_new wr v).lt)
      have r1 := Lib.hid (show RBox _ (wr.heap.size + 1) ⟨v.tag, [], v.bits, 0, 0⟩ from heap_alloc2_new wr (.cells #[.int .i64 v.tag, .string (bs v.text), .int .u64 v.bits, .string (bs v.cls), .string (bs v.name), .string (bs v.desc)] 25) (.cells #[.int .i64 v.tag, .string ⟨#[]⟩, .int .u64 v.bits, .int .i64 0, .int .i64 0] 49))
      clear k1
      go_wp2_with fail
      refine (HND.out _).mono ?_
      rintro e x3 ⟨u7, rfl, hr7, hb7⟩
      obtain ⟨A7, c7, rfl, hV7, hA7⟩ := hr7.reads
      have K3 := Lib.hid (k2.out.trans (hb7.mono k2.out.size))
      have r3 := Lib.hid (r1.out.keep hb7 r1.out.lt)
      have q3 := Lib.hid (q1.out.keep hb7 q1.out.lt)
      have P3 := Lib.hid (HP.out.grow (MB.out.trans (K3.out.mono MB.out.size)))
      have R3 := Lib.hid (MR.out.grow K3.out)
      have B3 := Lib.hid (MB.out.trans (K3.out.mono MB.out.size))
      have HNE := Lib.hid (fun k (hk : u3.ownBlock = some k) => MR.out.lt hk)
      have HV7 := Lib.hid hV7
      have HA7 := Lib.hid hA7
      have hbw := MB.out.size
      have hnl := v.needs_len
      have hbs := HP.out.lt
      have HR1 := Lib.hid (show v.raw1 (Pv.num O) = if v.wide = true then [v.rawOf (Pv.num O), Rw.zero] else [v.rawOf (Pv.num O)] from rfl)
      clear hr7 hb7 hV7 hA7 c1 c2 c3 c4 c5 c6 r1 q1 MR MB k2 HND p1 p2
      match hnd : v.needs, hnl with
      | [], _ =>
        have hrv := Pv.rawOf_nil hnd (Pv.num O)
        have d1 := q3.out.at_.2.1
        have d6 := q3.out.lt
        have g0 := (blk_facts r3.out).1 1
        have g1 := (blk_facts r3.out).2 1
        have g2 := r3.out.lt
        dsimp only [List.length_nil]
        go_upto_region 15 with fail
        clear d1 d6 g0 g1 g2
        have hgr0 := grownBy_set (x3) (wr.heap.size + 1) 1 r3.out (.string (bs v.text))
        have hr0 := show RBox ((x3).setCell ⟨wr.heap.size + 1, 1, none⟩ (.string (bs v.text))) (wr.heap.size + 1) ⟨v.tag, v.text, v.bits, 0, 0⟩ from RBox.set r3.out 1 (.string (bs v.text)) _ rfl
        have hq0 : VBox ((x3).setCell ⟨wr.heap.size + 1, 1, none⟩ (.string (bs v.text))) wr.heap.size v := (hgr0.block _ (q3.out).lt (by simp)).trans (q3.out)
        have hR0 := (R3.out).kept hgr0 (fun k hk e => by cases e; exact absurd (HNE.out _ hk) (by omega))
        have hB0 := (B3.out).setCell (p := ⟨wr.heap.size + 1, 1, none⟩) (by dsimp only; omega) (.string (bs v.text))
        rw [← hrv] at hr0
        have NX := Lib.hid hr0
        have NQ := Lib.hid hq0
        have NR := Lib.hid hR0
        have NB := Lib.hid hB0
        clear hgr0 hr0 hq0 hR0 hB0
        clear r3 q3 R3 B3 K3 HV7 P3
        generalize (x3).setCell ⟨wr.heap.size + 1, 1, none⟩ (.string (bs v.text)) = X at *
        clear hrv
        generalize v.rawOf (Pv.num O) = rv at *
        have kz := Lib.hid ((Below.refl X.heap.size X).alloc (Nat.le_refl _) (.cells #[.int .i64 rv.tag, .string (bs rv.text), .int .u64 rv.bits, .int .i64 rv.a, .int .i64 rv.b] 49))
        have f5 := NQ.out.at_.1
        have f6 := NQ.out.lt
        obtain ⟨f0, f1, f2, f3, f4⟩ := NX.out.at_
        have f7 := NX.out.lt
        go_wp2_with (at_builtin; refine wpList_appR rfl _ _ rfl w.heap.size _ (Rw.zero :: acc) rfl (NR.out.grow kz.out) _ [rv] rfl (src_raw (heap_alloc_new _ _) 1) (by have h := hal2; simp at h ⊢; omega) (Nat.le_trans NB.out.size kz.out.size) ?_; intro v5 x5 hr5 hp5; obtain ⟨h0, hz⟩ := app_boxR hp5 kz.out NR.out NQ.out)
        have N5 := Lib.hid hr5
        have NB5 := Lib.hid ((NB.out.trans (kz.out.mono NB.out.size)).trans (hp5.below (Nat.le_trans NB.out.size kz.out.size) (fun k hk => NR.out.base_le hk)))
        clear hr5 hp5 f0 f1 f2 f3 f4 f5 f6 f7 NX NR kz NQ
        refine (wide_any v.tag _).mono ?_
        rintro e w6 ⟨rfl, rfl⟩
        cases hw : v.wide with
        | true =>
          rw [hw, if_pos rfl] at HR1
          have hwt : (v.tag == 5 || v.tag == 6) = true := hw
          rw [hwt]
          have kz := Lib.hid ((Below.refl w6.heap.size w6).alloc (Nat.le_refl _) (.cells #[.int .i64 0, .string ⟨#[]⟩, .int .u64 0, .int .i64 0, .int .i64 0] 49))
          go_wp2_with (at_builtin; refine wpList_appR rfl _ _ rfl w.heap.size _ (Rw.zero :: acc ++ [rv]) rfl (N5.out.grow kz.out) _ [Rw.zero] rfl (src_raw (v := Rw.zero) (heap_alloc_new _ _) 1) (by have h := hal2; simp at h ⊢; omega) (Nat.le_trans NB5.out.size kz.out.size) ?_; intro v8 x8 hr8 hp8)
          have N8 := Lib.hid hr8
          have NB8 := Lib.hid ((NB5.out.trans (kz.out.mono NB5.out.size)).trans (hp8.below (Nat.le_trans NB5.out.size kz.out.size) (fun k hk => N5.out.base_le hk)))
          clear hr8 hp8
          go_roundw
          case rel => exact ⟨i + 1, by omega, by go_num, by rw [HSN.out, HR1.out]; simpa using N8.out, NB8.out⟩
          case measure => simp [intOf]; omega
        | false =>
          rw [hw, if_neg (by decide)] at HR1
          have hwt : (v.tag == 5 || v.tag == 6) = false := hw
          rw [hwt]
          go_wp2_with fail
          go_roundw
          case rel => exact ⟨i + 1, by omega, by go_num, by rw [HSN.out, HR1.out]; simpa using N5.out, NB5.out⟩
          case measure => simp [intOf]; omega
      | [x], _ =>
        have hrv := Pv.rawOf_one hnd (Pv.num O)
        have hvx := HV7.out
        rw [hnd] at hvx
        obtain ⟨g7, o7, x', e7, hg7, hx7, d0, d1, d2, d3, d4, d5⟩ := hvx.at_ (i := 0) (by simp)
        subst e7
        simp at hx7
        subst hx7
        simp only [Nat.zero_mul, Nat.add_zero] at d0 d1 d2 d3 d4 d5
        have hlk := fun q => VNum.look (show VNum (x3.drewN q) m n _ from P3.out.num) (HK1.out x (by rw [hnd]; simp))
        unfold vv at hlk
        have hb1 := (blk_facts P3.out.box).1 1
        have hb2 := P3.out.lt
        dsimp only [List.length_cons, List.length_nil]
        go_wp2_with fail
        refine wp_region_draw_tail 9 (by kernel_rfl) (by kernel_rfl) ?_
        simp only [List.take_succ_cons, List.take_zero, List.drop_succ_cons, List.drop_zero]
        repeat (go_big_quiet_step (fail))
        refine wpQuiet_nil ?_
        intro q1
        obtain ⟨x4, e4⟩ : ∃ x4, x4 = x3.drewN q1 := ⟨_, rfl⟩
        have r4 := Lib.hid (show RBox x4 (wr.heap.size + 1) ⟨v.tag, [], v.bits, 0, 0⟩ from by rw [e4]; exact r3.out)
        have q4 := Lib.hid (show VBox x4 wr.heap.size v from by rw [e4]; exact q3.out)
        have R4 := Lib.hid (show RRow x4 w.heap.size u3 (Rw.zero :: acc) from by rw [e4]; exact R3.out)
        have B4 := Lib.hid (show Below w.heap.size w x4 from by rw [e4]; exact below_drewN B3.out q1)
        rw [← e4]
        clear d0 d1 d2 d3 d4 d5 hg7 hb1 hb2 hlk r3 q3 R3 B3 P3 K3 e4
        have g0 := (blk_facts r4.out).1 3
        have g1 := (blk_facts r4.out).2 3
        have g2 := r4.out.lt
        go_upto_region 15 with fail
        clear g0 g1 g2
        have hgr0 := grownBy_set (x4) (wr.heap.size + 1) 3 r4.out (.int .i64 ((Pv.num O x : Nat) : Int))
        have hr0 := show RBox ((x4).setCell ⟨wr.heap.size + 1, 3, none⟩ (.int .i64 ((Pv.num O x : Nat) : Int))) (wr.heap.size + 1) ⟨v.tag, [], v.bits, Pv.num O x, 0⟩ from RBox.set r4.out 3 (.int .i64 ((Pv.num O x : Nat) : Int)) _ rfl
        have hq0 : VBox ((x4).setCell ⟨wr.heap.size + 1, 3, none⟩ (.int .i64 ((Pv.num O x : Nat) : Int))) wr.heap.size v := (hgr0.block _ (q4.out).lt (by simp)).trans (q4.out)
        have hR0 := (R4.out).kept hgr0 (fun k hk e => by cases e; exact absurd (HNE.out _ hk) (by omega))
        have hB0 := (B4.out).setCell (p := ⟨wr.heap.size + 1, 3, none⟩) (by dsimp only; omega) (.int .i64 ((Pv.num O x : Nat) : Int))
        rw [← hrv] at hr0
        have NX := Lib.hid hr0
        have NQ := Lib.hid hq0
        have NR := Lib.hid hR0
        have NB := Lib.hid hB0
        clear hgr0 hr0 hq0 hR0 hB0
        clear r4 q4 R4 B4 HV7
        generalize (x4).setCell ⟨wr.heap.size + 1, 3, none⟩ (.int .i64 ((Pv.num O x : Nat) : Int)) = X at *
        clear hrv
        generalize v.rawOf (Pv.num O) = rv at *
        have kz := Lib.hid ((Below.refl X.heap.size X).alloc (Nat.le_refl _) (.cells #[.int .i64 rv.tag, .string (bs rv.text), .int .u64 rv.bits, .int .i64 rv.a, .int .i64 rv.b] 49))
        have f5 := NQ.out.at_.1
        have f6 := NQ.out.lt
        obtain ⟨f0, f1, f2, f3, f4⟩ := NX.out.at_
        have f7 := NX.out.lt
        go_wp2_with (at_builtin; refine wpList_appR rfl _ _ rfl w.heap.size _ (Rw.zero :: acc) rfl (NR.out.grow kz.out) _ [rv] rfl (src_raw (heap_alloc_new _ _) 1) (by have h := hal2; simp at h ⊢; omega) (Nat.le_trans NB.out.size kz.out.size) ?_; intro v5 x5 hr5 hp5; obtain ⟨h0, hz⟩ := app_boxR hp5 kz.out NR.out NQ.out)
        have N5 := Lib.hid hr5
        have NB5 := Lib.hid ((NB.out.trans (kz.out.mono NB.out.size)).trans (hp5.below (Nat.le_trans NB.out.size kz.out.size) (fun k hk => NR.out.base_le hk)))
        clear hr5 hp5 f0 f1 f2 f3 f4 f5 f6 f7 NX NR kz NQ
        refine (wide_any v.tag _).mono ?_
        rintro e w6 ⟨rfl, rfl⟩
        have hw : v.wide = false := by cases hw : v.wide with
          | true => exact absurd (wide_needs hw) (by rw [hnd]; simp)
          | false => rfl
        rw [hw, if_neg (by decide)] at HR1
        have hwt : (v.tag == 5 || v.tag == 6) = false := hw
        rw [hwt]
        go_wp2_with fail
        go_roundw
        case rel => exact ⟨i + 1, by omega, by go_num, by rw [HSN.out, HR1.out]; simpa using N5.out, NB5.out⟩
        case measure => simp [intOf]; omega
      | [x, y], _ =>
        have hrv := Pv.rawOf_two hnd (Pv.num O)
        have hvx := HV7.out
        rw [hnd] at hvx
        obtain ⟨g7, o7, x', e7, hg7, hx7, d0, d1, d2, d3, d4, d5⟩ := hvx.at_ (i := 0) (by simp)
        subst e7
        simp at hx7
        subst hx7
        obtain ⟨g7', o7', y', e7, _, hx7, b0, b1, b2, b3, b4, b5⟩ := hvx.at_ (i := 1) (by simp)
        cases e7
        simp at hx7
        subst hx7
        simp only [Nat.zero_mul, Nat.one_mul, Nat.add_zero] at d0 d1 d2 d3 d4 d5 b0 b1 b2 b3 b4 b5
        have hx0 := HK1.out x (by rw [hnd]; simp)
        have hy0 := HK1.out y (by rw [hnd]; simp)
        have hbx := (blk_facts P3.out.box).1 1
        have hbz2 := P3.out.lt
        have g0 := (blk_facts r3.out).1 3
        have g1 := (blk_facts r3.out).2 3
        have g2 := r3.out.lt
        have g3 := (blk_facts r3.out).1 4
        have g4 := (blk_facts r3.out).2 4
        have hmne := P3.out.num.ne r3.out
        have hlk0 := VNum.look (show VNum x3.drew m n _ from P3.out.num) hx0
        have hlk1 := VNum.look (show VNum x3.drew m n _ from P3.out.num) hy0
        have hlk2 := VNum.look (show VNum (x3.setCell ⟨wr.heap.size + 1, 3, none⟩ (.int .i64 ((Pv.num O x : Nat) : Int))).drew m n _ from (numkept P3.out.num hmne (grownBy_set x3 (wr.heap.size + 1) 3 r3.out (.int .i64 ((Pv.num O x : Nat) : Int)))).grow (Below.refl _ _).drew) hy0
        have hlk3 := VNum.look (show VNum (x3.setCell ⟨wr.heap.size + 1, 4, none⟩ (.int .i64 ((Pv.num O y : Nat) : Int))).drew m n _ from (numkept P3.out.num hmne (grownBy_set x3 (wr.heap.size + 1) 4 r3.out (.int .i64 ((Pv.num O y : Nat) : Int)))).grow (Below.refl _ _).drew) hx0
        unfold vv at hlk0 hlk1 hlk2 hlk3
        have n1 : ¬ b = wr.heap.size + 1 := by omega
        have n2 : ¬ g7 = wr.heap.size + 1 := by have h := (HA7.out g7 o7 rfl).1; simp at h; omega
        dsimp only [List.length_cons, List.length_nil]
        go_wp2_with fail
        go_region
        go_upto_region 15 with fail
        clear g0 g1 g2 g3 g4 n1 n2 hlk0 hlk1 hlk2 hlk3 d0 d1 d2 d3 d4 d5 b0 b1 b2 b3 b4 b5 hbx hbz2 hmne hx0 hy0 hg7
        have hgr0 := grownBy_set (x3) (wr.heap.size + 1) 3 r3.out (.int .i64 ((Pv.num O x : Nat) : Int))
        have hr0 := show RBox ((x3).setCell ⟨wr.heap.size + 1, 3, none⟩ (.int .i64 ((Pv.num O x : Nat) : Int))) (wr.heap.size + 1) ⟨v.tag, [], v.bits, Pv.num O x, 0⟩ from RBox.set r3.out 3 (.int .i64 ((Pv.num O x : Nat) : Int)) _ rfl
        have hq0 : VBox ((x3).setCell ⟨wr.heap.size + 1, 3, none⟩ (.int .i64 ((Pv.num O x : Nat) : Int))) wr.heap.size v := (hgr0.block _ (q3.out).lt (by simp)).trans (q3.out)
        have hR0 := (R3.out).kept hgr0 (fun k hk e => by cases e; exact absurd (HNE.out _ hk) (by omega))
        have hB0 := (B3.out).setCell (p := ⟨wr.heap.size + 1, 3, none⟩) (by dsimp only; omega) (.int .i64 ((Pv.num O x : Nat) : Int))
        have hgr1 := grownBy_set ((x3).setCell ⟨wr.heap.size + 1, 3, none⟩ (.int .i64 ((Pv.num O x : Nat) : Int))) (wr.heap.size + 1) 4 hr0 (.int .i64 ((Pv.num O y : Nat) : Int))
        have hr1 := show RBox (((x3).setCell ⟨wr.heap.size + 1, 3, none⟩ (.int .i64 ((Pv.num O x : Nat) : Int))).setCell ⟨wr.heap.size + 1, 4, none⟩ (.int .i64 ((Pv.num O y : Nat) : Int))) (wr.heap.size + 1) ⟨v.tag, [], v.bits, Pv.num O x, Pv.num O y⟩ from RBox.set hr0 4 (.int .i64 ((Pv.num O y : Nat) : Int)) _ rfl
        have hq1 : VBox (((x3).setCell ⟨wr.heap.size + 1, 3, none⟩ (.int .i64 ((Pv.num O x : Nat) : Int))).setCell ⟨wr.heap.size + 1, 4, none⟩ (.int .i64 ((Pv.num O y : Nat) : Int))) wr.heap.size v := (hgr1.block _ (hq0).lt (by simp)).trans (hq0)
        have hR1 := (hR0).kept hgr1 (fun k hk e => by cases e; exact absurd (HNE.out _ hk) (by omega))
        have hB1 := (hB0).setCell (p := ⟨wr.heap.size + 1, 4, none⟩) (by dsimp only; omega) (.int .i64 ((Pv.num O y : Nat) : Int))
        rw [← hrv] at hr1
        obtain ⟨X, eX⟩ : ∃ X, X = ((x3.setCell ⟨wr.heap.size + 1, 3, none⟩ (.int .i64 ((Pv.num O x : Nat) : Int))).setCell ⟨wr.heap.size + 1, 4, none⟩ (.int .i64 ((Pv.num O y : Nat) : Int))).drew := ⟨_, rfl⟩
        have NX := Lib.hid (show RBox X (wr.heap.size + 1) (v.rawOf (Pv.num O)) from by rw [eX]; exact hr1)
        have NQ := Lib.hid (show VBox X wr.heap.size v from by rw [eX]; exact hq1)
        have NR := Lib.hid (show RRow X w.heap.size u3 (Rw.zero :: acc) from by rw [eX]; exact (hR1).grow (Below.refl _ _).drew)
        have NB := Lib.hid (show Below w.heap.size w X from by rw [eX]; exact (hB1).drew)
        rw [← eX]
        clear eX hgr0 hgr1 hr0 hr1 hq0 hq1 hR0 hR1 hB0 hB1 r3 q3 R3 B3 K3 HV7 P3 HA7 hrv
        generalize v.rawOf (Pv.num O) = rv at *
        have kz := Lib.hid ((Below.refl X.heap.size X).alloc (Nat.le_refl _) (.cells #[.int .i64 rv.tag, .string (bs rv.text), .int .u64 rv.bits, .int .i64 rv.a, .int .i64 rv.b] 49))
        have f5 := NQ.out.at_.1
        have f6 := NQ.out.lt
        obtain ⟨f0, f1, f2, f3, f4⟩ := NX.out.at_
        have f7 := NX.out.lt
        go_wp2_with (at_builtin; refine wpList_appR rfl _ _ rfl w.heap.size _ (Rw.zero :: acc) rfl (NR.out.grow kz.out) _ [rv] rfl (src_raw (heap_alloc_new _ _) 1) (by have h := hal2; simp at h ⊢; omega) (Nat.le_trans NB.out.size kz.out.size) ?_; intro v5 x5 hr5 hp5; obtain ⟨h0, hz⟩ := app_boxR hp5 kz.out NR.out NQ.out)
        have N5 := Lib.hid hr5
        have NB5 := Lib.hid ((NB.out.trans (kz.out.mono NB.out.size)).trans (hp5.below (Nat.le_trans NB.out.size kz.out.size) (fun k hk => NR.out.base_le hk)))
        clear hr5 hp5 f0 f1 f2 f3 f4 f5 f6 f7 NX NR kz NQ
        refine (wide_any v.tag _).mono ?_
        rintro e w6 ⟨rfl, rfl⟩
        have hw : v.wide = false := by cases hw : v.wide with
          | true => exact absurd (wide_needs hw) (by rw [hnd]; simp)
          | false => rfl
        rw [hw, if_neg (by decide)] at HR1
        have hwt : (v.tag == 5 || v.tag == 6) = false := hw
        rw [hwt]
        go_wp2_with fail
        go_roundw
        case rel => exact ⟨i + 1, by omega, by go_num, by rw [HSN.out, HR1.out]; simpa using N5.out, NB5.out⟩
        case measure => simp [intOf]; omega
    · obtain rfl : i = O.length := by omega
      have p1 : decide ((O.length : Int) < (O.length : Int)) = false := decide_eq_false (by omega)
      have p2 : decide (O.length < O.length) = false := decide_eq_false (by omega)
      rw [List.take_length] at MR
      go_wp2
      go_ret
      exact ⟨_, rfl, MR.out, MB.out⟩
end Go.Proofs.Ytimheacdaafodaa
