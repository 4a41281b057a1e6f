/- The walk of layer 28: the table of values. -/
import Derived.Test.YtekcfjfkbiciaaaTabB
import Derived.Test.YtekcfjfkbiciaaaTabD
import Derived.Test.YtekcfjfkbiciaaaTabF
import Derived.Test.YtekcfjfkbiciaaaClosure
namespace Go.Proofs.Ytekcfjfkbiciaaa
open Go.RowKit Go.Maps

/-- What the call comes to. -/
def OfOk (l : List Pv) (w : World) (e : Ending) (w' : World) : Prop :=
  (Pv.errOf l ≠ 0 ∧ e = .returned (.tuple #[.pointer none, .int .i64 (Pv.errOf l)]) ∨
   Pv.errOf l = 0 ∧ ∃ b m n us, e = .returned (.tuple #[.pointer (some ⟨b, 0, none⟩), .int .i64 0]) ∧ TabOf w' w.heap.size b m n us (Pv.ord [] l)) ∧ Below w.heap.size w w'
set_option maxHeartbeats 8000000 in
set_option maxRecDepth 100000 in
theorem of_any (B : Option Addr) (d : Nat) (l : List Pv) (w : World) (hy : Vals w B d l) (hm : l.length ≤ 1000) (hA : B = none → d = 0) (hf : ∀ v ∈ l, v.fits) :
    Calls Try.prog 6 #[.slice B l.length d] w (OfOk l w) := by
  have HY := Lib.hid hy
  have HFIT := Lib.hid hf
  have HFT := Lib.hid (fun x hx => Pv.fits_cl hf (x := x) hx)
  have HAN := Lib.hid hA
  have HND := Lib.hid (fun v w => needs_any v w)
  unfold vv at HND
  have k0 := Lib.hid ((Below.refl w.heap.size w).alloc (Nat.le_refl _) (.map #[] 0))
  have HV0 := Lib.hid (VSet.made w)
  have hmm := @run_makeMap Try.prog
  clear hy hf hA
  unfold OfOk
  go_enter Try.func6, Try.ntmps6
  go_wp2_with fail
  clear hmm
  generalize w.alloc (.map #[] 0) = W at k0 HV0 ⊢
  go_loopw [17] (fun t wr => ∃ i : Nat, i ≤ l.length ∧ t = .int .i64 i ∧ Pv.errOf (l.drop i) = Pv.errOf l ∧ Below W.heap.size W wr) (fun t _ => l.length - (intOf t).toNat)
  case atStart => exact ⟨0, Nat.zero_le _, rfl, rfl, Below.refl _ _⟩
  case round =>
    obtain ⟨i, hil, rfl, her, hB⟩ := hrel
    have MB := Lib.hid hB
    have ME := Lib.hid her
    clear hB her
    by_cases hi : i < l.length
    · obtain ⟨g, o, v, rfl, hg, hv, c0, c1, c2, c3, c4, c5⟩ := (HY.out.grow (k0.out.trans (MB.out.mono k0.out.size))).at_ hi
      have p1 : decide ((i : Int) < (l.length : Int)) = true := decide_eq_true (by omega)
      have p2 : decide (i < l.length) = true := decide_eq_true hi
      have HED := Lib.hid (Pv.errOf_drop hv)
      have HVF := Lib.hid (HFIT.out v (List.mem_of_getElem? hv))
      clear hv
      have kA := (Below.refl wr.heap.size wr).alloc (Nat.le_refl _) (.cells #[.int .i64 v.tag, .string (bs v.text), .int .u64 v.bits, .string (bs v.cls), .string (bs v.name), .string (bs v.desc)] 25)
      have kB := Lib.hid (kA.alloc kA.size (.cells #[.int .i64 v.tag, .string (bs v.text), .int .u64 v.bits, .string (bs v.cls), .string (bs v.name), .string (bs v.desc)] 25))
      have HNW := Lib.hid (new_any (some ⟨wr.heap.size + 1, 0, none⟩) none 1 0 [v] [] _ (vals_one (heap_alloc2_new wr (.cells #[.int .i64 v.tag, .string (bs v.text), .int .u64 v.bits, .string (bs v.cls), .string (bs v.name), .string (bs v.desc)] 25) (.cells #[.int .i64 v.tag, .string (bs v.text), .int .u64 v.bits, .string (bs v.cls), .string (bs v.name), .string (bs v.desc)] 25))) (Vals.nil _ _ _) (fun h => by cases h) (by simp) (by simp) (fun x hx => by simp at hx; exact hx ▸ HVF.out))
      clear kA
      go_wp2_with fail
      refine HNW.out.mono ?_
      rintro e x4 ⟨hnew, hb4⟩
      have B4 := Lib.hid (MB.out.trans ((kB.out.trans (hb4.mono kB.out.size)).mono MB.out.size))
      have hev : Pv.errOf ([v] ++ []) = if v.chk 0 9 5 = 0 then 0 else v.chk 0 9 5 := rfl
      rw [hev] at hnew
      clear hb4 HNW kB c0 c1 c2 c3 c4 c5 hev
      by_cases hc : v.chk 0 9 5 = 0
      · rw [if_pos hc] at hnew
        have HEN := Lib.hid (show Pv.errOf (l.drop (i + 1)) = Pv.errOf l by
          have h := HED.out
          rw [if_pos hc] at h
          rw [← h]
          exact ME.out)
        rcases hnew with ⟨h, _⟩ | ⟨_, b, u, m, n, rfl, _⟩
        · exact absurd rfl h
        clear hc
        go_wp2_with fail
        go_roundw
        case rel => exact ⟨i + 1, by omega, by go_num, HEN.out, B4.out⟩
        case measure => simp [intOf]; omega
      · rw [if_neg hc] at hnew
        have HEN := Lib.hid (show Pv.errOf l = v.chk 0 9 5 by
          have h := HED.out
          rw [if_neg hc] at h
          rw [← h]
          exact ME.out.symm)
        rcases hnew with ⟨h, rfl⟩ | ⟨h, _⟩
        · have HC := Lib.hid hc
          have he : (v.chk 0 9 5 != 0) = true := by simpa using hc
          clear hc h
          go_wp2_with fail
          go_ret2
          exact ⟨.inl ⟨by rw [HEN.out]; exact HC.out, by rw [HEN.out]; rfl⟩, k0.out.trans (B4.out.mono k0.out.size)⟩
        · exact absurd h hc
    · obtain rfl : i = l.length := by omega
      have p1 : decide ((l.length : Int) < (l.length : Int)) = false := decide_eq_false (by omega)
      have p2 : decide (l.length < l.length) = false := decide_eq_false (by omega)
      have HE0 := Lib.hid (show Pv.errOf l = 0 by rw [← ME.out, List.drop_length]; rfl)
      have B1 := Lib.hid (k0.out.trans (MB.out.mono k0.out.size))
      have V1 := Lib.hid (HV0.out.grow MB.out)
      have HC := Lib.hid (clone_any B d l wr (HY.out.grow B1.out) (by omega) HAN.out)
      clear ME MB HV0 k0
      go_wp2_with fail
      refine HC.out.mono ?_
      rintro e w1 ⟨u, rfl, hr, hb⟩
      have HST := Lib.hid (show CloSt l w (7 * l.length) u (7 * l.length) w1 from
        ⟨_, l, 0, wts_le l, by have := wts_le l; omega, Clo.begin, V1.out.grow hb, (VOff.of hr).lower B1.out.size, B1.out.trans (hb.mono B1.out.size)⟩)
      clear hr hb HC V1 B1
      go_wp2_with fail
      clear wr
      go_loopg [9] (7 * l.length) (fun g t wx => CloSt l w (7 * l.length) t g wx)
      case atStart => exact HST.out
      case round =>
        clear HST
        obtain ⟨S, T, n, hg, hN, hC, hV, hT, hB⟩ := hrel
        have HC := Lib.hid hC
        have HV := Lib.hid hV
        have HT := Lib.hid hT
        have HB := Lib.hid hB
        clear hC hV hT hB
        rcases List.eq_nil_or_concat T with rfl | ⟨T', v, rfl⟩
        · obtain ⟨A4, c4, rfl, hV4⟩ := HT.out.reads
          have HF := Lib.hid (fun x => HC.out.fin x)
          clear hV4 HT HC
          have MV := Lib.hid HV.out
          have MB := Lib.hid HB.out
          have hn7 : n ≤ 7 * l.length := by omega
          clear HV HB
          go_wp2_with fail
          refine (start_new wr).mono ?_
          rintro e w4 ⟨us, hus, rfl, hT4, hb4⟩
          have HUS := Lib.hid hus
          clear hus
          have V4 := Lib.hid (MV.out.grow hb4)
          have B4 := Lib.hid (MB.out.trans (hb4.mono MB.out.size))
          have T4 := Lib.hid hT4
          have hwr := MB.out.size
          have hw4 := hb4.size
          clear hT4 hb4 MV MB
          go_wp2_with fail
          refine (keys_any w.heap.size w4).mono ?_
          rintro e w5 ⟨rfl, hw5⟩
          have kC : Below w4.heap.size w4 w5 := hw5 ▸ (Below.refl w4.heap.size w4).alloc (Nat.le_refl _) _
          have hcell : w5.cell? ⟨w4.heap.size, 0, none⟩ = some (.map (some w.heap.size)) := hw5 ▸ (blk_facts (heap_alloc_new w4 (.cells #[.map (some w.heap.size)] 41))).1 0
          have hlt5 : w4.heap.size < w5.heap.size := by rw [← hw5]; simp
          have hV5 := V4.out.grow kC
          obtain ⟨D0, hown, hSI⟩ := hV5
          have hsz := hown.size_le
          have htb : wr.heap.size + 1 < w5.heap.size := Nat.lt_trans T4.out.box.lt hlt5
          have htm : wr.heap.size < w5.heap.size := by omega
          have HSO := Lib.hid (sorted_any w4.heap.size w.heap.size n D0 S hSI w5 hlt5 hcell hown (by omega))
          have T5 := Lib.hid (T4.out.grow kC)
          have B5 := Lib.hid (B4.out.trans (kC.mono B4.out.size))
          clear kC hcell hown hSI hw5 V4 T4 B4
          go_wp2_with fail
          refine HSO.out.mono ?_
          rintro e w6 ⟨u, O, rfl, hr6, hpw, hk6, hm6, hl6, hb6⟩
          have hO := sorted_is HFIT.out HF.out hpw hk6 hm6
          have T6 := Lib.hid (T5.out.grow hb6)
          have B6 := Lib.hid (B5.out.trans (hb6.mono B5.out.size))
          obtain ⟨A6, c6, rfl, hV6, hA6⟩ := hr6.reads
          have V6 := Lib.hid hV6
          have HOO := Lib.hid hO
          have HON := Lib.hid (show O.Nodup from rises_nodup Pv.lin hpw)
          have HOF := Lib.hid (show ∀ v ∈ O, v.fits ∧ v.chk 0 9 5 = 0 from fun v hv => by
            have h := (HF.out v).1 ((hm6 v (hk6 v hv)).1 hv)
            exact ⟨Pv.fits_cl HFIT.out h, Pv.chk_cl (Pv.errOf_zero HE0.out) h⟩)
          have hol : O.length ≤ 7000 := by omega
          have HG := Lib.hid (show ∀ g o, A6 = some ⟨g, o, none⟩ → 0 < O.length → w5.heap.size ≤ g ∧ g < w6.heap.size from fun g o e hp => by
            obtain ⟨g', o', e', hg', _⟩ := hV6.2 hp
            rw [e] at e'
            cases e'
            exact ⟨(hA6 g o e).1, hg'⟩)
          have hs6 := hb6.size
          clear hr6 hpw hk6 hm6 hb6 hO hV6 hA6 HSO T5 B5 HF hl6
          have TS := Lib.hid (show TabS w6 wr.heap.size (wr.heap.size + 1) wr.heap.size 0 us (fun t => Pv.row (O.take 0) t) (Pv.nums O 0) (fun v => decide (v ∈ O.take 0)) from T6.out.same (fun t => rfl) (fun v => by rw [nums_zero]) (fun v => by simp))
          have T0 := Lib.hid (TS.out.lower hwr)
          clear TS T6
          go_wp2_with fail
          generalize wr.heap.size + 1 = tb at *
          generalize wr.heap.size = tm at *
          clear wr
          go_loopw [62] (fun t wr => ∃ (i : Nat) (us : Nat → Value) (n : Nat), i ≤ O.length ∧ t = .int .i64 i ∧ TabS wr w.heap.size tb tm n us (fun t => Pv.row (O.take i) t) (Pv.nums O i) (fun v => decide (v ∈ O.take i)) ∧ n ≤ i ∧ (∀ s k, (us s).ownBlock = some k → w6.heap.size ≤ k) ∧ Vals wr A6 c6 O ∧ w6.heap.size ≤ wr.heap.size ∧ Below w.heap.size w wr) (fun t _ => O.length - (intOf t).toNat)
          case atStart => exact ⟨0, us, 0, Nat.zero_le _, rfl, T0.out, Nat.le_refl _, (fun s k hk => by rw [HUS.out] at hk; cases hk), V6.out, Nat.le_refl _, B6.out⟩
          case round =>
            obtain ⟨i, us2, n2, hil, rfl, hT, hn2, hus2, hVl, hsz2, hB⟩ := hrel
            have MT := Lib.hid hT
            have MU := Lib.hid hus2
            have MV := Lib.hid hVl
            have MB := Lib.hid hB
            clear hT hus2 hVl hB
            by_cases hi : i < O.length
            · obtain ⟨g, o, v, rfl, hg, hv, c0, c1, c2, c3, c4, c5⟩ := MV.out.at_ hi
              have p1 : decide ((i : Int) < (O.length : Int)) = true := decide_eq_true (by omega)
              have p2 : decide (i < O.length) = true := decide_eq_true hi
              obtain ⟨hvf, hvc⟩ := HOF.out v (List.mem_of_getElem? hv)
              have htg := chk_tag hvc
              obtain ⟨t, ht⟩ : ∃ t : Nat, v.tag = (t : Int) := ⟨v.tag.toNat, by omega⟩
              have k1 := Lib.hid ((Below.refl wr.heap.size wr).alloc (Nat.le_refl _) (.cells #[.int .i64 v.tag, .string (bs v.text), .int .u64 v.bits, .string (bs v.cls), .string (bs v.name), .string (bs v.desc)] 25))
              have hrl := row_len (O.take i) (t : Int)
              rw [List.length_take] at hrl
              have HADD := Lib.hid (add_any w.heap.size tb tm n2 t us2 (fun t => Pv.row (O.take i) t) (Pv.nums O i) (fun v => decide (v ∈ O.take i)) v _ (MT.out.grow k1.out) hvf ht (by omega) (by omega) (by omega))
              unfold vv at HADD
              have HTN := Lib.hid (fun (x : World) (us : Nat → Value) h => TabS.next (x := x) (base := w.heap.size) (b := tb) (m := tm) (n := n2 + 1) (us := us) hv HON.out ht h)
              have HGG := Lib.hid (HG.out g o rfl (by omega))
              clear hvf hvc htg ht hrl hv
              go_wp2_with fail
              refine HADD.out.mono ?_
              rintro e x5 ⟨rfl, ⟨us3, hT3, hu3⟩, hfr, hb5⟩
              have k1s := k1.out.size
              have hgw := HGG.out
              have N5 := Lib.hid (HTN.out x5 us3 hT3)
              have NB := Lib.hid (show Below w.heap.size w x5 from (MB.out.trans (k1.out.mono MB.out.size)).trans hb5)
              have NS : wr.heap.size ≤ x5.heap.size := by
                have h1 : x5.heap.size ≥ (wr.alloc (.cells #[.int .i64 v.tag, .string (bs v.text), .int .u64 v.bits, .string (bs v.cls), .string (bs v.name), .string (bs v.desc)] 25)).heap.size := hb5.size
                omega
              have NU := Lib.hid (show ∀ s k, (us3 s).ownBlock = some k → w6.heap.size ≤ k from fun s k hk => by
                rcases hu3 s k hk with h | h
                · exact MU.out s k h
                · omega)
              have NV := Lib.hid (MV.out.block NS (fun g' o' e => by
                cases e
                exact (hfr g (by omega) (by omega) (by omega) (fun e => by have := MU.out t g e; omega)).trans (k1.out.block g hg)))
              clear hT3 hu3 hfr hb5 c0 c1 c2 c3 c4 c5 HADD HTN MT MU MV MB k1
              go_wp2_with fail
              go_roundw
              case rel => exact ⟨i + 1, us3, n2 + 1, by omega, by go_num, N5.out, by omega, NU.out, NV.out, by omega, NB.out⟩
              case measure => simp [intOf]; omega
            · obtain rfl : i = O.length := by omega
              have p1 : decide ((O.length : Int) < (O.length : Int)) = false := decide_eq_false (by omega)
              have p2 : decide (O.length < O.length) = false := decide_eq_false (by omega)
              have hT := MT.out
              rw [List.take_length] at hT
              have NT := Lib.hid (show TabOf wr w.heap.size tb tm n2 us2 (Pv.ord [] l) from by rw [← HOO.out]; exact hT)
              clear hT MT MU MV
              go_wp2_with fail
              go_ret2
              exact ⟨.inr ⟨HE0.out, tb, tm, n2, us2, rfl, NT.out⟩, MB.out⟩
        · rw [List.concat_eq_append] at HT HC hg hN
          obtain ⟨g, o, c', rfl, hbg, hgl, hc', ⟨c0, c1, c2, c3, c4, c5⟩, hnx⟩ := HT.out.pop
          have HN := Lib.hid hnx
          have HFV := Lib.hid (HFT.out v (HC.out.soundT v (by simp)))
          have k1 := Lib.hid ((Below.refl wr.heap.size wr).alloc (Nat.le_refl _) (.cells #[.int .i64 v.tag, .string (bs v.text), .int .u64 v.bits, .string (bs v.cls), .string (bs v.name), .string (bs v.desc)] 25))
          have q1 := Lib.hid (vbox_new wr v)
          rw [wts_append, show wts [v] = v.wt + 0 from wts_cons v []] at hg hN
          have hwv := wt_pos v
          have hTb : T'.length ≤ 1000000 := by have := wts_len T'; omega
          have hlk := (HV.out.grow k1.out).look HFV.out.k
          unfold vv at hlk
          have p1 : decide ((0 : Int) < (T'.length : Int) + 1) = true := decide_eq_true (by omega)
          clear hnx HT
          by_cases hS : S v = true
          · rw [hS] at hlk
            have HC2 := Lib.hid (HC.out.old hS)
            clear hS
            go_wp2_with fail
            go_roundg (gk - 1)
            case measure => omega
            case rel => exact ⟨S, T', n, by omega, by omega, HC2.out, HV.out.grow k1.out, HN.out.grow k1.out, HB.out.trans (k1.out.mono HB.out.size)⟩
          · rw [Bool.eq_false_iff.2 hS] at hlk
            have HC2 := Lib.hid (HC.out.add)
            have hwn := wts_needs v
            have hnl := v.needs_len
            clear hS
            have HVK := Lib.hid (HV.out.grow k1.out)
            have hnm : n < maxLen := by unfold maxLen; omega
            have hvv : Value.agg #[.int .i64 v.tag, .string (bs v.text), .int .u64 v.bits, .string (bs v.cls), .string (bs v.name), .string (bs v.desc)] = vv v := rfl
            have HVV := Lib.hid hvv
            have HNM := Lib.hid hnm
            clear hvv hnm
            have hml := HV.out.lt
            have HNV := Lib.hid (HN.out.grow k1.out)
            have HNE := Lib.hid (show some w.heap.size ≠ (Value.slice (some ⟨g, o, none⟩) T'.length c').ownBlock by
              obtain ⟨D, ⟨es, clock, hb, _⟩, _⟩ := HVK.out
              exact OffRow.ne_obj HNV.out hb (fun cur e => by cases e))
            go_wp2_with (at_mapUpdate; refine wpList_setPut rfl _ _ _ rfl w.heap.size n S v rfl HVK.out HNM.out HFV.out.k rfl rfl ?_; intro w5 hV5 hg5; have q5 : VBox w5 wr.heap.size v := (hg5.block _ (by simp) (fun e => by have := Option.some.inj e; omega)).trans q1.out; obtain ⟨d0, d1, d2, d3, d4, d5⟩ := q5.at_; have hqs := q5.lt; have HV5 := Lib.hid hV5; have HG5 := Lib.hid hg5; clear hV5 hg5 q5)
            have hkN : VOff w5 w.heap.size (.slice (some ⟨g, o, none⟩) T'.length c') T' := OffRow.kept HNV.out HG5.out (.inr HNE.out)
            have HKN := Lib.hid hkN
            have KB := Lib.hid ((HB.out.trans (k1.out.mono HB.out.size)).grown HG5.out (Nat.le_trans HB.out.size k1.out.size) (fun j hj => by cases hj; exact Nat.le_refl _))
            refine (HND.out v w5).mono ?_
            rintro e w6 ⟨u31, rfl, hr6, hb6⟩
            obtain ⟨A6, c6, rfl, hV6, hA6⟩ := hr6.reads
            have HV6 := Lib.hid hV6
            have HR6 := Lib.hid hb6
            clear hr6 hV6 hA6 hb6 d0 d1 d2 d3 d4 d5 hqs hkN hlk c0 c1 c2 c3 c4 c5
            go_wp2_with (at_builtin; refine wpList_appO rfl _ _ rfl w.heap.size (.slice (some ⟨g, o, none⟩) T'.length c') T' rfl (HKN.out.grow HR6.out) _ v.needs rfl (HV6.out.src (Below.refl _ _)) (by omega) (Nat.le_trans KB.out.size HR6.out.size) ?_; intro v7 w7 hr7 hp7)
            have S7 := Lib.hid hr7
            have V7 := Lib.hid ((HV5.out.grow HR6.out).kept hp7.1 HNE.out)
            have B7 := Lib.hid ((KB.out.trans (HR6.out.mono KB.out.size)).trans (hp7.below (Nat.le_trans KB.out.size HR6.out.size) (fun k hk => (HKN.out.base_le hk).1)))
            clear hr7 hp7
            go_roundg (gk - 1)
            case measure => omega
            case rel => exact ⟨_, T' ++ v.needs, n + 1, by rw [wts_append]; omega, by rw [wts_append]; omega, HC2.out, V7.out, S7.out, B7.out⟩
end Go.Proofs.Ytekcfjfkbiciaaa
