/- Joined texts: Cm, Shelf, Sort, Compact, Lib, Closure. -/
import Derived.Test.YtkdamaomhppkgaaGreatPk13
import Derived.Test.YtkdamaomhppkgaaGreatPk11
import Derived.Shelf.SlLaysF0
import Derived.Ground.SlsfProg
import Derived.Test.YtkdamaomhppkgaaGreatProg
import Derived.Test.YtkdamaomhppkgaaGreatPk3
import Derived.Test.YtkdamaomhppkgaaGreatPk4
import Derived.Shelf.SlSortCmp.NoneTotal
import Derived.Lib.SlicesCompact
import Derived.Deep.LoopGhost
import Derived.Deep.QuietTactic
import Derived.BigQuiet
import Derived.Lib.SliceRun
import Derived.Test.YtkdamaomhppkgaaGreatPk2
import Derived.Shelf.Spec.SlicesGrow
import Derived.LoopN
import Derived.Test.YtkdamaomhppkgaaGreatPk6
import Derived.Carry
/- The walk of layer 28: a table's bytes. -/
namespace Go.Proofs.YtkdamaomhppkgaaGreat
open Go.RowKit Go.Maps Pp

theorem order_nat {i : Nat} (h : i < 10) : ∃ t : Nat, tOrder[i]? = some (t : Int) ∧ t < 13 := by
  obtain rfl | rfl | rfl | rfl | rfl | rfl | rfl | rfl | rfl | rfl : i = 0 ∨ i = 1 ∨ i = 2 ∨ i = 3 ∨ i = 4 ∨ i = 5 ∨ i = 6 ∨ i = 7 ∨ i = 8 ∨ i = 9 := by omega
  · exact ⟨3, rfl, by decide⟩
  · exact ⟨4, rfl, by decide⟩
  · exact ⟨5, rfl, by decide⟩
  · exact ⟨6, rfl, by decide⟩
  · exact ⟨7, rfl, by decide⟩
  · exact ⟨8, rfl, by decide⟩
  · exact ⟨12, rfl, by decide⟩
  · exact ⟨9, rfl, by decide⟩
  · exact ⟨10, rfl, by decide⟩
  · exact ⟨11, rfl, by decide⟩
theorem flat_take {α β : Type} (f : α → List β) {l : List α} {i : Nat} {x : α} (h : l[i]? = some x) : (l.take (i + 1)).flatMap f = (l.take i).flatMap f ++ f x := by
  obtain ⟨h1, rfl⟩ := List.getElem?_eq_some_iff.1 h
  rw [List.take_succ_eq_append_getElem h1, List.flatMap_append]
  simp
theorem cols_len (O : List Pv) (t : Int) : (colsW O t).length ≤ 2 ∧ ∀ xs ∈ colsW O t, xs.length ≤ O.length := by
  have h := row_len O t
  unfold colsW
  split
  · exact ⟨by simp, fun xs hx => by simp at hx; rw [hx, List.length_map]; exact h⟩
  · split
    · exact ⟨by simp, fun xs hx => by simp at hx; rw [hx, List.length_map]; exact h⟩
    · exact ⟨by simp, fun xs hx => by
        simp at hx
        rcases hx with rfl | rfl <;> rw [List.length_map] <;> exact h⟩
theorem rows_len (O : List Pv) : (rowsW O).length ≤ 21 ∧ ∀ xs ∈ rowsW O, xs.length ≤ O.length + 10 := by
  unfold rowsW
  refine ⟨?_, fun xs hx => ?_⟩
  · have h : ∀ ts : List Int, (ts.flatMap (colsW O)).length ≤ 2 * ts.length := by
      intro ts
      induction ts with
      | nil => simp
      | cons t ts ih =>
        rw [List.flatMap_cons, List.length_append, List.length_cons]
        have := (cols_len O t).1
        omega
    have := h tOrder
    rw [List.length_cons]
    have h10 : tOrder.length = 10 := rfl
    omega
  · rw [List.mem_cons] at hx
    rcases hx with rfl | hx
    · rw [List.length_map, show tOrder.length = 10 from rfl]; omega
    · obtain ⟨t, _, ht⟩ := List.mem_flatMap.1 hx
      have := (cols_len O t).2 xs ht
      omega
theorem band_i64 {l : List Int} {b : List UInt8} (h : bandW l = some b) : ∀ v ∈ l, I64 v := by
  have h1 : boundsI l = true := by
    cases hb : boundsI l with
    | true => rfl
    | false => rw [bandW_no hb] at h; cases h
  unfold boundsI at h1
  rw [Bool.or_eq_true] at h1
  intro v hv
  unfold I64
  rcases h1 with h1 | h1
  all_goals
    have h2 := List.all_eq_true.1 h1 v hv
    unfold boundI at h2
    simp at h2
    omega
set_option maxHeartbeats 8000000 in
set_option maxRecDepth 100000 in
theorem tbytes_any (base b m n : Nat) (us : Nat → Value) (O : List Pv) (w : World) (h : TabOf w base b m n us O) (hO : Tbl O) (hf : ∀ v ∈ O, v.fits) (hl : O.length ≤ 90000) (hs : sumL (texts O) ≤ 1000000000) (x : List UInt8) (hx : tblW O = some x) (he : wordsE (texts O) = 0) (hxl : x.length ≤ 1000000000) :
    Calls Tryz.prog 9 #[.pointer (some ⟨b, 0, none⟩)] w fun e w' => ∃ u, e = .returned (.tuple #[u, .int .i64 0]) ∧ BRow w' w.heap.size 5 u x ∧ Below w.heap.size w w' := by
  have HT := Lib.hid h
  have HO := Lib.hid hO
  have HF := Lib.hid hf
  have HX := Lib.hid hx
  have HE := Lib.hid he
  obtain ⟨A, c, eu, hV, hAz⟩ := (h.rows 1 (by decide)).reads
  have hcell := h.box.cell (t := 1) (by decide)
  rw [eu] at hcell
  have hbz := h.box.lt
  have hrl := row_len O ((1 : Nat) : Int)
  have HTX := Lib.hid (show texts O = (Pv.row O ((1 : Nat) : Int)).map Pv.text from rfl)
  have HV := Lib.hid hV
  clear h hO hf hx he eu hV hAz
  generalize eL : Pv.row O ((1 : Nat) : Int) = L at *
  clear eL
  go_enter Tryz.func9, Tryz.ntmps9
  go_wp2_with fail
  go_loopw [4, 27] (fun uT u wr => ∃ i : Nat, i ≤ L.length ∧ u = .int .i64 i ∧ TRow wr w.heap.size uT ((L.take i).map Pv.text) ∧ Below w.heap.size w wr) (fun _ u _ => L.length - (intOf u).toNat)
  case atStart => exact ⟨0, Nat.zero_le _, rfl, TRow.nil _ _, Below.refl _ _⟩
  case round =>
    obtain ⟨uT, rfl⟩ : ∃ uT, uT = u4 := ⟨_, rfl⟩
    obtain ⟨i, hil, rfl, hrt, hB⟩ := hrel
    have RT := Lib.hid hrt
    have MB := Lib.hid hB
    clear hrt hB
    by_cases hi : i < L.length
    · obtain ⟨g, o, v, rfl, hg, hv, c0, c1, c2, c3, c4, c5⟩ := (HV.out.grow MB.out).at_ hi
      have p1 : decide ((i : Int) < (L.length : Int)) = true := decide_eq_true (by omega)
      have p2 : decide (i < L.length) = true := decide_eq_true hi
      have HT1 := Lib.hid (map_take_succ Pv.text hv)
      have hlt : ((L.take i).map Pv.text).length ≤ 100000 := by rw [List.length_map, List.length_take]; omega
      have hk1 := (Below.refl wr.heap.size wr).alloc (Nat.le_refl _) (.cells #[.int .i64 v.tag, .string (bs v.text), .int .u64 v.bits, .string (bs v.cls), .string (bs v.name), .string (bs v.desc)] 36)
      have hk2 := hk1.alloc hk1.size (.cells #[.string (bs v.text)] 9)
      have K2 := Lib.hid hk2
      have HAL := Lib.hid (heap_alloc2_new wr (.cells #[.int .i64 v.tag, .string (bs v.text), .int .u64 v.bits, .string (bs v.cls), .string (bs v.name), .string (bs v.desc)] 36) (.cells #[.string (bs v.text)] 9))
      have hws := MB.out.size
      clear hv hk1 hk2
      generalize (L.take i).map Pv.text = LT at *
      go_upto_region 8 with (at_builtin; refine wpList_appS rfl _ _ rfl w.heap.size uT LT rfl (RT.out.grow K2.out) (wr.heap.size + 1) v.text 9 (0, 0) rfl HAL.out (by omega) (Nat.le_trans hws K2.out.size) ?_; intro v7 x7 hr7 hp7; have HR7 := Lib.hid hr7; have HP7 := Lib.hid hp7; clear hr7 hp7)
      have NB := Lib.hid ((MB.out.trans (K2.out.mono hws)).trans (HP7.out.below (Nat.le_trans hws K2.out.size) (fun k hk => (World.ownsRow.lt RT.out k hk).1)))
      clear c0 c1 c2 c3 c4 c5
      go_wp2_with fail
      go_roundw
      case rel => exact ⟨i + 1, by omega, by go_num, by rw [HT1.out]; exact HR7.out, NB.out⟩
      case measure => simp [intOf]; omega
    · obtain rfl : i = L.length := by omega
      have p1 : decide ((L.length : Int) < (L.length : Int)) = false := decide_eq_false (by omega)
      have p2 : decide (L.length < L.length) = false := decide_eq_false (by omega)
      have ht := RT.out
      rw [List.take_length, ← HTX.out] at ht
      obtain ⟨At, ct, rfl, hTx⟩ := ht.reads
      have htl : (texts O).length ≤ 100000 := by rw [HTX.out, List.length_map]; omega
      have HWW := Lib.hid (wwrite_any At ct (texts O) wr hTx htl hs)
      obtain ⟨wA, rfl⟩ : ∃ wA, wA = wr := ⟨_, rfl⟩
      have htl2 : (texts O).length = L.length := by rw [HTX.out, List.length_map]
      rw [htl2] at HWW ⊢
      clear ht hTx RT htl htl2
      go_wp2_with fail
      refine HWW.out.mono ?_
      intro ex w1 hres
      unfold WordsRes at hres
      rcases hres with ⟨h9, _⟩ | ⟨_, xw, uo, hxw, rfl, hro, hbo⟩
      · exact absurd HE.out h9
      obtain ⟨a9, bb, hA9, hbands, hxe⟩ := join2_some (show join2 (wordsB (texts O)) (bandsW (rowsW O)) = some x from HX.out)
      rw [hxw] at hA9
      cases hA9
      obtain ⟨Ao, co, rfl, _⟩ := hro.at_
      have HBD := Lib.hid hbands
      have HXE := Lib.hid hxe
      have HOut := Lib.hid hro
      have NB1 := Lib.hid (MB.out.trans (hbo.mono MB.out.size))
      have HT1 := Lib.hid (HT.out.grow NB1.out)
      have hwA := MB.out.size
      clear hxw hro hbo hbands hxe HWW MB HT HV HTX HX HE
      go_wp2_with fail
      refine (torder_blk w1).mono ?_
      rintro e w2 ⟨rfl, hI2, hb2, _⟩
      have HI2 := Lib.hid hI2
      have HOut2 := Lib.hid (HOut.out.grow hb2)
      have HT2 := Lib.hid (HT1.out.grow hb2)
      have NB2 := Lib.hid (NB1.out.trans (hb2.mono NB1.out.size))
      clear hI2 hb2 HOut HT1 NB1
      go_wp2_with fail
      go_loopw [9, 47] (fun uL u wr => ∃ i : Nat, i ≤ 10 ∧ u = .int .i64 i ∧ IRow wr w2.heap.size uL ((tOrder.take i).map fun t => ((Pv.row O t).length : Int)) ∧ Below w2.heap.size w2 wr) (fun _ u _ => 10 - (intOf u).toNat)
      case atStart => exact ⟨0, by omega, rfl, IRow.nil _ _, Below.refl _ _⟩
      case round =>
        obtain ⟨uL, rfl⟩ : ∃ uL, uL = u9 := ⟨_, rfl⟩
        obtain ⟨i, hi10, rfl, hrl2, hB⟩ := hrel
        have RL := Lib.hid hrl2
        have MB := Lib.hid hB
        clear hrl2 hB
        by_cases hi : i < 10
        · obtain ⟨t, ht1, ht13⟩ := order_nat hi
          obtain ⟨g1, o1, v1, eg, hg1, hv1, hcell1⟩ := (HI2.out.grow MB.out).at_ (i := i) (by show i < 10; exact hi)
          cases eg
          rw [ht1] at hv1
          cases hv1
          rw [Nat.zero_add] at hcell1
          have q1 : decide ((i : Int) < 10) = true := decide_eq_true (by omega)
          have q2 : decide (i < 10) = true := decide_eq_true hi
          have q3 : (i : Int) < 10 := by omega
          have q4 : (t : Int) < 13 := by omega
          have q5 : decide (t < 13) = true := decide_eq_true ht13
          have HLS := Lib.hid (map_take_succ (fun t => ((Pv.row O t).length : Int)) ht1)
          have HT3 := HT2.out.grow MB.out
          obtain ⟨Ar, cr, er, _⟩ := (HT3.rows t ht13).reads
          have hct := HT3.box.cell ht13
          rw [er] at hct
          have hbz3 := HT3.box.lt
          have hll : ((tOrder.take i).map fun t => ((Pv.row O t).length : Int)).length ≤ 10 := by rw [List.length_map, List.length_take]; omega
          have k1 := Lib.hid ((Below.refl wr.heap.size wr).alloc (Nat.le_refl _) (.cells #[.int .i64 ((Pv.row O (t : Int)).length : Nat)] 3))
          have hws := MB.out.size
          clear er ht1 HT3
          generalize ((tOrder.take i).map fun t => ((Pv.row O t).length : Int)) = LL at *
          go_upto_region 17 with (at_builtin; refine wpList_appIs rfl _ _ rfl w2.heap.size uL LL rfl (RL.out.grow k1.out) _ [((Pv.row O (t : Int)).length : Int)] rfl (isrc_one (heap_alloc_new _ _)) (by simp; omega) (Nat.le_trans hws k1.out.size) ?_; intro v7 x7 hr7 hp7; have HR7 := Lib.hid hr7; have HP7 := Lib.hid hp7; clear hr7 hp7)
          have NB := Lib.hid ((MB.out.trans (k1.out.mono hws)).trans (HP7.out.below (Nat.le_trans hws k1.out.size) (fun k hk => RL.out.base_le hk)))
          clear hcell1 hct hbz3
          go_wp2_with fail
          go_roundw
          case rel => exact ⟨i + 1, by omega, by go_num, by rw [HLS.out]; exact HR7.out, NB.out⟩
          case measure => simp [intOf]; omega
        · obtain rfl : i = 10 := by omega
          have hlz := RL.out
          rw [show tOrder.take 10 = tOrder from rfl] at hlz
          obtain ⟨wC, rfl⟩ : ∃ wC, wC = wr := ⟨_, rfl⟩
          have hwC := MB.out.size
          have HLE := Lib.hid (show rowsW O = (tOrder.map fun t => ((Pv.row O t).length : Int)) :: tOrder.flatMap (colsW O) from rfl)
          generalize (tOrder.map fun t => ((Pv.row O t).length : Int)) = LE at *
          have k3 := (Below.refl wC.heap.size wC).alloc (Nat.le_refl _) (.cells #[uL] 72)
          obtain ⟨Al, cl, el, _⟩ := hlz.reads
          have hh3 := Heads.one (hlz.grow k3)
          have hb3 := heap_alloc_new wC (.cells #[uL] 72)
          have HTC := Lib.hid (HT2.out.grow MB.out)
          have HOutC := Lib.hid (HOut2.out.grow MB.out)
          have NBW := Lib.hid (NB2.out.trans (MB.out.mono NB2.out.size))
          have hs3 : wC.heap.size + 1 = (wC.alloc (.cells #[uL] 72)).heap.size := by simp
          have NBC := Lib.hid k3
          subst el
          have HH3 := Lib.hid hh3
          have HR3 := Lib.hid (HRow.one (base := wC.heap.size) hb3 (Nat.le_refl _))
          clear hlz k3 hh3 hb3 RL MB HT2 HOut2 HI2 NB2
          go_upto_region 19 with fail
          generalize wC.alloc (.cells #[.slice Al LE.length cl] 72) = w3 at *
          go_wp2_with fail
          refine (torder_blk w3).mono ?_
          rintro e w4 ⟨rfl, _, hb4, hn4⟩
          have HN4 := Lib.hid hn4
          have HH4 := Lib.hid (HH3.out.grow hb4)
          have HR4 := Lib.hid (HR3.out.grow hb4)
          have NC4 := Lib.hid (NBC.out.trans (hb4.mono NBC.out.size))
          have hs4 := hb4.size
          have HCL := Lib.hid (fun (t : Nat) (ht : t < 13) (y : World) (k : TabOf y base b m n us O) => columns_any base b m n us O t y k HO.out HF.out ht (by omega))
          clear hb4 hn4 HH3 HR3 NBC
          go_wp2_with fail
          go_loopw [12, 66] (fun uR u wr => ∃ (i : Nat) (hs : List Value), i ≤ 10 ∧ u = .int .i64 i ∧ HRow wr wC.heap.size uR hs ∧ Heads wr w2.heap.size hs (LE :: (tOrder.take i).flatMap (colsW O)) ∧ wr.heap[w3.heap.size]? = some (.cells (ic tOrder).toArray 3 (0, 0)) ∧ hs.length ≤ 1 + 2 * i ∧ Below wC.heap.size wC wr) (fun _ u _ => 10 - (intOf u).toNat)
          case atStart => exact ⟨0, [.slice Al LE.length cl], by omega, rfl, HR4.out, HH4.out, HN4.out, by simp, NC4.out⟩
          case round =>
            obtain ⟨uR, rfl⟩ : ∃ uR, uR = u12 := ⟨_, rfl⟩
            obtain ⟨i, hs9, hi10, rfl, hrr, hhd, hno, hhl, hB⟩ := hrel
            have RR := Lib.hid hrr
            have RH := Lib.hid hhd
            have RN := Lib.hid hno
            have MB := Lib.hid hB
            clear hrr hhd hno hB
            by_cases hi : i < 10
            · obtain ⟨t, ht1, ht13⟩ := order_nat hi
              obtain ⟨g1, o1, v1, eg, hg1, hv1, hcell1⟩ := (ints_of_blk RN.out).at_ (i := i) (by show i < 10; exact hi)
              cases eg
              rw [ht1] at hv1
              cases hv1
              rw [Nat.zero_add] at hcell1
              have q1 : decide ((i : Int) < 10) = true := decide_eq_true (by omega)
              have q2 : decide (i < 10) = true := decide_eq_true hi
              have q3 : (i : Int) < 10 := by omega
              have HFT := Lib.hid (flat_take (colsW O) ht1)
              have HCO := Lib.hid (HCL.out t ht13 wr (HTC.out.grow MB.out))
              have hcl2 := (cols_len O (t : Int)).1
              have hw2 : w2.heap.size ≤ wr.heap.size := Nat.le_trans hwC MB.out.size
              clear ht1
              go_wp2_with fail
              refine HCO.out.mono ?_
              rintro ex w5 ⟨g5, k5, c5, hs5, rfl, hg5, hc5, hh5, hb5⟩
              have hl5 : hs5.length ≤ 2 := by rw [hh5.1]; exact hcl2
              have HSRC := Lib.hid (show Src Tryz.prog 1 74 (.slice (some ⟨g5, k5, none⟩) hs5.length c5) hs5.length hs5 w5 from Src.ofSlice w5 Tryz.underlying74 ⟨g5, k5, none⟩ hs5.length c5 _ (by simp) (fun j u hu => by rw [addr_add]; exact hc5 j u hu) hh5.one_cell)
              have R5 := Lib.hid (RR.out.grow hb5)
              have H5 := Lib.hid ((RH.out.grow hb5).app (hh5.lower hw2))
              have N5 := Lib.hid ((hb5.block _ (by have := (Array.getElem?_eq_some_iff.1 RN.out).1; exact this)).trans RN.out)
              have NB5 := Lib.hid (MB.out.trans (hb5.mono MB.out.size))
              clear hc5 hh5 hb5 hcell1 RR RH RN MB HCO
              go_upto_region 23 with (at_builtin; refine wpList_appH rfl _ _ rfl wC.heap.size uR hs9 rfl R5.out _ hs5 rfl HSRC.out (by omega) NB5.out.size ?_; intro v7 x7 hr7 hp7; have HR7 := Lib.hid hr7; have HP7 := Lib.hid hp7; clear hr7 hp7)
              have NB := Lib.hid (NB5.out.trans (HP7.out.below NB5.out.size (fun k hk => (HRow.blk R5.out hk).1)))
              have NH := Lib.hid (H5.out.kept HP7.out.1 (fun g cur e hc => own_ne R5.out hc (by decide) e.symm))
              have NO := Lib.hid ((HP7.out.1.block _ (Array.getElem?_eq_some_iff.1 N5.out).1 (own_ne R5.out N5.out (by decide))).trans N5.out)
              have NL : (hs9 ++ hs5).length ≤ 1 + 2 * (i + 1) := by rw [List.length_append]; omega
              go_wp2_with fail
              go_roundw
              case rel => exact ⟨i + 1, hs9 ++ hs5, by omega, by go_num, HR7.out, by rw [HFT.out]; exact NH.out, NO.out, NL, NB.out⟩
              case measure => simp [intOf]; omega
            · obtain rfl : i = 10 := by omega
              have hh := RH.out
              rw [show tOrder.take 10 = tOrder from rfl, ← HLE.out] at hh
              have HH := Lib.hid hh
              obtain ⟨wD, rfl⟩ : ∃ wD, wD = wr := ⟨_, rfl⟩
              obtain ⟨AR, cR, eR, _⟩ := RR.out.reads
              subst eR
              have HOutD := Lib.hid (brow_mono (HOutC.out.grow MB.out) hwA)
              have NBD := Lib.hid (NBW.out.trans (MB.out.mono NBW.out.size))
              have hrl9 := rows_len O
              have HRL := Lib.hid hrl9.2
              have HLN := Lib.hid hh.1
              clear hh RH RN HOutC HTC hrl9 MB
              go_wp2_with fail
              generalize ((10 : Nat) : Int) = z10
              go_loopw [7, 78] (fun uO u wr => ∃ (i : Nat) (acc rest : List UInt8), i ≤ hs9.length ∧ u = .int .i64 i ∧ BRow wr w.heap.size 5 uO acc ∧ bandsW ((rowsW O).drop i) = some rest ∧ acc ++ rest = x ∧ HRow wr wC.heap.size (.slice AR hs9.length cR) hs9 ∧ Heads wr w2.heap.size hs9 (rowsW O) ∧ Below w.heap.size w wr) (fun _ u _ => hs9.length - (intOf u).toNat)
              case atStart => exact ⟨0, xw, bb, Nat.zero_le _, rfl, HOutD.out, HBD.out, HXE.out.symm, RR.out, HH.out, NBD.out⟩
              case round =>
                obtain ⟨uO, rfl⟩ : ∃ uO, uO = u7 := ⟨_, rfl⟩
                obtain ⟨i, acc, rest, hin, rfl, hrow, hbr, hac, hrr, hhd, hB⟩ := hrel
                have RO := Lib.hid hrow
                have MB := Lib.hid hB
                have MA := Lib.hid hac
                have MBR := Lib.hid hbr
                have MR := Lib.hid hrr
                have MH := Lib.hid hhd
                clear hrow hB hac hbr hrr hhd
                by_cases hi : i < hs9.length
                · have p1 : decide ((i : Int) < (hs9.length : Int)) = true := decide_eq_true (by omega)
                  have p2 : decide (i < hs9.length) = true := decide_eq_true hi
                  obtain ⟨ui, hui⟩ : ∃ ui, hs9[i]? = some ui := ⟨_, List.getElem?_eq_getElem hi⟩
                  obtain ⟨xs, hxs⟩ : ∃ xs, (rowsW O)[i]? = some xs := ⟨_, List.getElem?_eq_getElem (by rw [← HLN.out]; exact hi)⟩
                  obtain ⟨g9, rfl, hg9, hc9⟩ := HRow.cell MR.out hui
                  obtain ⟨Bi, di, rfl, hI⟩ := (MH.out.2 i ui xs hui hxs).reads
                  have hdr : (rowsW O).drop i = xs :: (rowsW O).drop (i + 1) := by
                    obtain ⟨h1, rfl⟩ := List.getElem?_eq_some_iff.1 hxs
                    exact List.drop_eq_getElem_cons h1
                  have hbr := MBR.out
                  rw [hdr] at hbr
                  obtain ⟨a9, b9, hba, hbb, hre⟩ := bandsW_cons hbr
                  have hxl9 := HRL.out xs (List.mem_of_getElem? hxs)
                  have HBW := Lib.hid (bwrite_any Bi di xs wr hI (band_i64 hba) (by omega))
                  rw [hba] at HBW
                  have hal : acc.length + a9.length ≤ 1000000000 := by
                    have h1 := congrArg List.length MA.out
                    rw [hre, List.length_append, List.length_append] at h1
                    omega
                  have NBR := Lib.hid hbb
                  have NA := Lib.hid (show (acc ++ a9) ++ b9 = x from by rw [List.append_assoc, ← hre]; exact MA.out)
                  clear hbr hdr hxs hui hI hba hbb hre MBR MA
                  go_wp2_with fail
                  refine HBW.out.mono ?_
                  rintro ex w5 ⟨u5', rfl, hr5, hb5⟩
                  obtain ⟨A5, c5, rfl, hba5⟩ := hr5.at_
                  have HBA := Lib.hid hba5
                  have RO5 := Lib.hid (RO.out.grow hb5)
                  have MR5 := Lib.hid (MR.out.grow hb5)
                  have MH5 := Lib.hid (MH.out.grow hb5)
                  have NB5 := Lib.hid (MB.out.trans (hb5.mono MB.out.size))
                  clear hr5 hb5 hba5 hc9 HBW RO MR MH MB
                  go_upto_region 31 with (at_builtin; refine wpList_appBy rfl _ _ _ rfl w.heap.size uO acc a9 rfl RO5.out _ rfl HBA.out.src (by omega) NB5.out.size ?_; intro v7 x7 hr7 hp7; have HR7 := Lib.hid hr7; have HP7 := Lib.hid hp7; clear hr7 hp7)
                  have NB := Lib.hid (NB5.out.trans (hop_base RO5.out HP7.out (Nat.le_refl _) NB5.out.size))
                  have NH := Lib.hid (MH5.out.kept HP7.out.1 (fun g cur e hc => own_ne RO5.out hc (by decide) e.symm))
                  have NR := Lib.hid (HRow.kept MR5.out HP7.out.1 (fun k hk e => by
                    obtain ⟨_, cur, hc⟩ := HRow.blk MR5.out hk
                    exact own_ne RO5.out hc (by decide) e.symm))
                  go_wp2_with fail
                  go_roundw
                  case rel => exact ⟨i + 1, acc ++ a9, b9, by omega, by go_num, HR7.out, NBR.out, NA.out, NR.out, NH.out, NB.out⟩
                  case measure => simp [intOf]; omega
                · obtain rfl : i = hs9.length := by omega
                  have p1 : decide ((hs9.length : Int) < (hs9.length : Int)) = false := decide_eq_false (by omega)
                  have p2 : decide (hs9.length < hs9.length) = false := decide_eq_false (by omega)
                  have hbr := MBR.out
                  rw [HLN.out, List.drop_length] at hbr
                  unfold bandsW at hbr
                  have hx9 := MA.out
                  rw [← Option.some.inj hbr, List.append_nil] at hx9
                  subst hx9
                  clear hbr MA MBR
                  go_wp2_with fail
                  go_ret2
                  exact ⟨_, rfl, RO.out, MB.out⟩
end Go.Proofs.YtkdamaomhppkgaaGreat

/- slices.SortFunc over values: the shelf's contracts at this program (as the kit's lay-shelf and lay-plain wrote it for one seat; here by names). -/
namespace Go.Proofs
open Go.Shelf
def Tryz.vsortA_ren : Go.Shelf.Ren := ⟨fun | 6 => 46 | 15 => 72 | 14 => 71 | 28 => 94 | 29 => 95 | 20 => 86 | 21 => 87 | 22 => 88 | 23 => 89 | 24 => 90 | 25 => 91 | 26 => 92 | 27 => 93 | 46 => 110 | 47 => 111 | 48 => 112 | 49 => 113 | 50 => 114 | 57 => 122 | n => n, fun | 22 => 22 | 24 => 36 | 25 => 64 | 3 => 3 | 39 => 101 | 0 => 0 | 53 => 102 | 55 => 34 | 4 => 4 | 46 => 135 | 45 => 134 | 50 => 50 | 5 => 5 | 9 => 9 | 66 => 156 | 70 => 160 | 76 => 166 | 77 => 167 | n => n, fun | n => n⟩
theorem Tryz.vsortA : Go.Proofs.SlLaysF0.n6 Tryz.prog Tryz.vsortA_ren := {
  mixed := by kernel_rfl
  f6 := ⟨Tryz.f46.name, by decide, Tryz.func46.trans (congrArg some (by kernel_rfl))⟩
  f14 := ⟨Tryz.f71.name, by decide, Tryz.func71.trans (congrArg some (by kernel_rfl))⟩
  f15 := Tryz.func72.trans (congrArg some (by kernel_rfl))
  f20 := ⟨Tryz.f86.name, by decide, Tryz.func86.trans (congrArg some (by kernel_rfl))⟩
  f21 := ⟨Tryz.f87.name, by decide, Tryz.func87.trans (congrArg some (by kernel_rfl))⟩
  f22 := ⟨Tryz.f88.name, by decide, Tryz.func88.trans (congrArg some (by kernel_rfl))⟩
  f23 := ⟨Tryz.f89.name, by decide, Tryz.func89.trans (congrArg some (by kernel_rfl))⟩
  f24 := ⟨Tryz.f90.name, by decide, Tryz.func90.trans (congrArg some (by kernel_rfl))⟩
  f25 := ⟨Tryz.f91.name, by decide, Tryz.func91.trans (congrArg some (by kernel_rfl))⟩
  f26 := ⟨Tryz.f92.name, by decide, Tryz.func92.trans (congrArg some (by kernel_rfl))⟩
  f27 := ⟨Tryz.f93.name, by decide, Tryz.func93.trans (congrArg some (by kernel_rfl))⟩
  f28 := Tryz.func94.trans (congrArg some (by kernel_rfl))
  f29 := Tryz.func95.trans (congrArg some (by kernel_rfl))
  f46 := ⟨Tryz.f110.name, by decide, Tryz.func110.trans (congrArg some (by kernel_rfl))⟩
  f47 := Tryz.func111.trans (congrArg some (by kernel_rfl))
  f48 := Tryz.func112.trans (congrArg some (by kernel_rfl))
  f49 := ⟨Tryz.f113.name, by decide, Tryz.func113.trans (congrArg some (by kernel_rfl))⟩
  f50 := ⟨Tryz.f114.name, by decide, Tryz.func114.trans (congrArg some (by kernel_rfl))⟩
  f57 := ⟨Tryz.f122.name, by decide, Tryz.func122.trans (congrArg some (by kernel_rfl))⟩
  t0 := Tryz.underlying0
  a0 := Tryz.isAgg0
  z0 := Tryz.sizeOf0
  v0 := Tryz.zeroValue0
  t3 := Tryz.underlying3
  a3 := Tryz.isAgg3
  z3 := Tryz.sizeOf3
  v3 := Tryz.zeroValue3
  t4 := Tryz.underlying4
  a4 := Tryz.isAgg4
  z4 := Tryz.sizeOf4
  v4 := Tryz.zeroValue4
  t5 := Tryz.underlying5
  a5 := Tryz.isAgg5
  z5 := Tryz.sizeOf5
  v5 := Tryz.zeroValue5
  t9 := Tryz.underlying9
  a9 := Tryz.isAgg9
  z9 := Tryz.sizeOf9
  v9 := Tryz.zeroValue9
  t22 := Tryz.underlying22
  a22 := Tryz.isAgg22
  z22 := Tryz.sizeOf22
  v22 := Tryz.zeroValue22
  t25 := Tryz.underlying64
  a25 := Tryz.isAgg64
  z25 := Tryz.sizeOf64
  v25 := Tryz.zeroValue64
  t39 := Tryz.underlying101
  a39 := Tryz.isAgg101
  z39 := Tryz.sizeOf101
  v39 := Tryz.zeroValue101
  t45 := Tryz.underlying134
  a45 := Tryz.isAgg134
  z45 := Tryz.sizeOf134
  v45 := Tryz.zeroValue134
  t46 := Tryz.underlying135
  a46 := Tryz.isAgg135
  z46 := Tryz.sizeOf135
  v46 := Tryz.zeroValue135
  t50 := Tryz.underlying50
  a50 := Tryz.isAgg50
  z50 := Tryz.sizeOf50
  v50 := Tryz.zeroValue50
  t53 := Tryz.underlying102
  a53 := Tryz.isAgg102
  z53 := Tryz.sizeOf102
  v53 := Tryz.zeroValue102
  t55 := Tryz.underlying34
  a55 := Tryz.isAgg34
  z55 := Tryz.sizeOf34
  v55 := Tryz.zeroValue34
  t66 := Tryz.underlying156
  a66 := Tryz.isAgg156
  z66 := Tryz.sizeOf156
  v66 := Tryz.zeroValue156
  t70 := Tryz.underlying160
  a70 := Tryz.isAgg160
  z70 := Tryz.sizeOf160
  v70 := Tryz.zeroValue160
  t76 := Tryz.underlying166
  a76 := Tryz.isAgg166
  z76 := Tryz.sizeOf166
  v76 := Tryz.zeroValue166
  t77 := Tryz.underlying167
  a77 := Tryz.isAgg167
  z77 := Tryz.sizeOf167
  v77 := Tryz.zeroValue167 }
end Go.Proofs

/- The walk of the library: a row of values sorted by pool.Compare. -/
namespace Go.Proofs.YtkdamaomhppkgaaGreat
open Go.RowKit Go.Sort

instance : Inhabited Pv := ⟨Pv.zero⟩
def encV (x : Pv) : List Value := vc [x]
theorem encV_len (x : Pv) : (encV x).length = 6 := rfl
theorem flat_vc (l : List Pv) : flatK encV 6 l.toArray = (vc l).toArray := by
  refine ext_get! (by simp [vc_length]) fun t ht => ?_
  have ht' : t < l.length * 6 := by simpa using ht
  rw [get_flatK _ _ _ _ (by simpa using ht')]
  have hi : t / 6 < l.length := by omega
  have hx : l[t / 6]? = some l[t / 6] := List.getElem?_eq_getElem hi
  have e1 : l.toArray[t / 6]! = l[t / 6] := by simp [hi]
  rw [e1]
  generalize l[t / 6] = x at hx
  obtain ⟨p0, p1, p2, p3, p4, p5⟩ := vc_get hx
  have fin : ∀ k, t % 6 = k → t = t / 6 * 6 + k := fun k hk => by omega
  have out : ∀ v, (vc l)[t]? = some v → (vc l).toArray[t]! = v := fun v hv => by simp [Array.getElem!_eq_getD, Array.getD_eq_getD_getElem?, hv]
  have hr : t % 6 = 0 ∨ t % 6 = 1 ∨ t % 6 = 2 ∨ t % 6 = 3 ∨ t % 6 = 4 ∨ t % 6 = 5 := by omega
  rcases hr with e | e | e | e | e | e
  · have e2 := fin _ e; rw [Nat.add_zero] at e2; rw [e, out _ (by rw [e2]; exact p0)]; rfl
  · have e2 := fin _ e; rw [e, out _ (by rw [e2]; exact p1)]; rfl
  · have e2 := fin _ e; rw [e, out _ (by rw [e2]; exact p2)]; rfl
  · have e2 := fin _ e; rw [e, out _ (by rw [e2]; exact p3)]; rfl
  · have e2 := fin _ e; rw [e, out _ (by rw [e2]; exact p4)]; rfl
  · have e2 := fin _ e; rw [e, out _ (by rw [e2]; exact p5)]; rfl
theorem swoV : SWO (ltOf cf) where
  irrefl x := by
    unfold ltOf
    exact decide_eq_false fun h => Pv.lin.irrefl x ((cf_lt x x).1 h)
  trans x y z h1 h2 := by
    unfold ltOf at *
    rw [decide_eq_true_eq, cf_lt] at *
    exact Pv.lin.trans _ _ _ h1 h2
  ntrans x y z h1 h2 := by
    unfold ltOf at *
    rw [decide_eq_false_iff_not, cf_lt] at *
    intro h
    rcases Pv.lin.tri x y with a | a | a
    · exact h1 a
    · subst a; exact h2 h
    · exact h2 (Pv.lin.trans _ _ _ a h)
theorem sortK_block {w : World} {blk off n : Nat} {d : Array Pv} {os : Array Obj} {k : Nat} (h1 : k ≠ blk) (h2 : k < w.heap.size) : (sortWorldK encV 6 w blk off n d os).heap[k]? = w.heap[k]? := by
  unfold sortWorldK
  rw [Sort.heap_grow_old _ _ (by simpa [putRowK, putRow, mapBlock, ahead] using h2)]
  simp [putRowK, Sort.putRow, Sort.mapBlock, Sort.ahead, Array.getElem?_modify, Ne.symm h1]
theorem sortK_grown (w : World) (blk off n : Nat) (d : Array Pv) (os : Array Obj) : w.grownBy (sortWorldK encV 6 w blk off n d os) (some blk) :=
  ⟨rfl, rfl, rfl, by unfold sortWorldK; simp [putRowK, putRow, mapBlock], fun _ hk hne => sortK_block (fun e => hne (by rw [e])) hk⟩
theorem cmpLays (blk off size : Nat) (w : World) : CmpLays Tryz.prog 26 #[] encV 6 cf blk off size w := fun _ _ _ _ x y => compare_grows x y _
theorem vhold {w : World} {base g n cap : Nat} {l : List Pv} (h : VRow w base (.slice (some ⟨g, 0, none⟩) n cap) l) : HoldsK encV 6 w g 0 l.toArray := by
  unfold HoldsK
  rw [flat_vc]
  rcases h.2 with ⟨h0, _⟩ | ⟨g', cap', cur, hv, h1, h2, h3, h4, h5, h6⟩
  · cases h0
  · cases hv
    intro j hj
    have hj' : j < (vc l).length := by simpa using hj
    refine ⟨?_, by simp [World.frozen?, h2]⟩
    have hc := World.ownsRow.cells h (g := g) rfl j _ (List.getElem?_eq_getElem hj')
    rw [addr_add] at hc
    rw [hc]
    simp [hj']
theorem vsorted {w : World} {base g cap n m : Nat} {os : Array Obj} {l l' : List Pv} (h : VRow w base (.slice (some ⟨g, 0, none⟩) m cap) l) (hl : l'.length = l.length) (hm : m = l.length) :
    VRow (sortWorldK encV 6 w g 0 n l'.toArray os) base (.slice (some ⟨g, 0, none⟩) m cap) l' := by
  rcases h.2 with ⟨h0, _⟩ | ⟨g', cap', cur, hv, h1, h2, h3, h4, h5, h6⟩
  · cases h0
  · cases hv
    have hg : g < w.heap.size := (Array.getElem?_eq_some_iff.1 h2).1
    have hblk : (sortWorldK encV 6 w g 0 n l'.toArray os).heap[g]? = some (.cells (Sort.putCells id 0 (vc l').toArray cur) 36 (0, 0)) := by
      unfold sortWorldK
      rw [Sort.heap_grow_old _ _ (by simpa [putRowK, putRow, mapBlock, ahead] using hg)]
      unfold putRowK
      rw [flat_vc]
      simp [Sort.putRow, Sort.mapBlock, Sort.ahead, Array.getElem?_modify, h2, Sort.onCells]
    unfold VRow
    rw [hl]
    refine ⟨by rw [vc_length, hl], .inr ⟨g, cap, _, by rw [← hm], h1, hblk, h3, h4, by simp [Sort.putCells, h5], ?_⟩⟩
    apply List.ext_getElem?
    intro j
    have hle : l.length * 6 ≤ cur.size := by rw [h5]; exact Nat.mul_le_mul_right _ h3
    by_cases hj : j < l.length * 6
    · have hj2 : j < (vc l').length := by rw [vc_length, hl]; exact hj
      rw [List.getElem?_take_of_lt hj, Array.getElem?_toList]
      simp [Sort.putCells, hj2, show j < cur.size by omega]
    · rw [List.getElem?_take_eq_none (by omega), List.getElem?_eq_none (by rw [vc_length, hl]; omega)]
set_option maxRecDepth 100000 in
theorem isAggV (w : World) : (isAgg (Tryz.vsortA_ren.t 24)).run Tryz.prog w = .ok true w := Tryz.isAgg36 w
set_option maxRecDepth 100000 in
theorem sizeOfV (w : World) : (Go.sizeOf (Tryz.vsortA_ren.t 24)).run Tryz.prog w = .ok 6 w := Tryz.sizeOf36 w
set_option maxRecDepth 100000 in
/-- Sorted: the same values, none behind a greater one. -/
theorem sort_any (base : Nat) (u : Value) (l : List Pv) (w : World) (hx : VRow w base u l) (hn : l.length ≤ 1000000) :
    Calls Tryz.prog 46 #[u, .func (.func 26) #[] #[]] w fun e w' => ∃ l', e = .returned (.tuple #[]) ∧ VRow w' base u l' ∧ l'.Perm l ∧ l'.Pairwise (fun a b => ¬ Pv.lt b a) ∧ w.grownBy w' u.ownBlock := by
  rcases id hx.2 with ⟨rfl, hn0⟩ | ⟨g, cap, cur, rfl, h1, h2, h3, h4, h5, h6⟩
  · obtain rfl : l = [] := List.eq_nil_of_length_eq_zero hn0
    have := AnyF.slices_SortFunc_none Tryz.vsortA none 0 (.func (.func 26) #[] #[]) w
    refine (show Calls Tryz.prog 46 _ w _ from this).mono ?_
    rintro e w' ⟨rfl, rfl⟩
    exact ⟨[], rfl, hx, List.Perm.nil, List.Pairwise.nil, World.grownBy.refl _ _⟩
  · have hg : g < w.heap.size := (Array.getElem?_eq_some_iff.1 h2).1
    have hs := AnyQ.slices_SortFunc Tryz.vsortA 6 isAggV sizeOfV encV encV_len (fun x => vc_one [x]) cf swoV 26 #[] g 0 cap l.toArray w (enters_of Tryz.func26 (by kernel_rfl) rfl) (cmpLays g 0 _ w) (vhold hx) hg (by simp; omega)
    have esz : l.toArray.size = l.length := by simp
    rw [esz] at hs
    refine (show Calls Tryz.prog 46 _ w _ from hs).mono ?_
    rintro e w' ⟨rfl, d', n, os, hp, hsr, rfl⟩
    have hd1 : d'.size = l.length := by rw [hp.1]; simp
    have hperm : d'.toList.Perm l := by
      have := hp.2.2
      have e1 : d'.extract 0 l.length = d' := by rw [← hd1]; simp
      have e2 : l.toArray.extract 0 l.length = l.toArray := by rw [← esz]; exact Array.extract_size
      rw [e1, e2] at this
      exact this
    refine ⟨d'.toList, rfl, ?_, hperm, ?_, sortK_grown w g 0 n d' os⟩
    · have := vsorted (n := n) (os := os) (l' := d'.toList) hx (by simpa using hd1) rfl
      simpa using this
    · rw [List.pairwise_iff_getElem]
      intro i j hi hj hij
      have hi' : i < d'.size := by simpa using hi
      have hj' : j < d'.size := by simpa using hj
      rw [← hd1] at hsr
      have h := hsr i j (Nat.zero_le _) hij hj'
      unfold ltOf at h
      rw [decide_eq_false_iff_not, cf_lt] at h
      have e1 : d'[i]! = d'.toList[i] := by simp [hi']
      have e2 : d'[j]! = d'.toList[j] := by simp [hj']
      rw [e1, e2] at h
      exact h
end Go.Proofs.YtkdamaomhppkgaaGreat

/- The walk of the library: equal neighbours of a row of values are struck. -/
namespace Go.Proofs.YtkdamaomhppkgaaGreat
open Go.RowKit Go.Sort

/-! ### Plain -/
theorem compact_snoc (l : List Pv) (m : Nat) (hm : m < l.length) : Lib.compactUpTo l.toArray (m + 1) = Lib.compactUpTo l.toArray m ++ (if m = 0 ∨ l.toArray[m]! ≠ l.toArray[m - 1]! then [l[m]] else []) := by
  rw [Lib.compactUpTo_succ]
  unfold Lib.keeps
  have e : l.toArray[m]! = l[m] := by simp [hm]
  by_cases h : m = 0 ∨ l.toArray[m]! ≠ l.toArray[m - 1]!
  · rw [if_pos h, decide_eq_true h, if_pos rfl, e]
  · rw [if_neg h, decide_eq_false h]; rfl
/-- Of a row in order each value comes once, in order. -/
theorem compact_rises {l : List Pv} (h : l.Pairwise (fun a b => ¬ Pv.lt b a)) : ∀ m, m ≤ l.length → (Lib.compactUpTo l.toArray m).Pairwise Pv.lt ∧ (∀ x, x ∈ Lib.compactUpTo l.toArray m ↔ x ∈ l.take m) ∧ (0 < m → (Lib.compactUpTo l.toArray m).getLast? = l[m - 1]?)
  | 0, _ => by simp [Lib.compactUpTo]
  | m + 1, hm => by
    obtain ⟨h1, h2, h3⟩ := compact_rises h m (by omega)
    have hm' : m < l.length := by omega
    rw [compact_snoc l m hm']
    have ht : l.take (m + 1) = l.take m ++ [l[m]] := List.take_succ_eq_append_getElem hm'
    have hle : ∀ x ∈ Lib.compactUpTo l.toArray m, ¬ Pv.lt l[m] x := fun x hx => by
      obtain ⟨i, hi, rfl⟩ := List.mem_iff_getElem.1 ((h2 x).1 hx)
      rw [List.length_take] at hi
      rw [List.getElem_take]
      exact List.pairwise_iff_getElem.1 h i m (by omega) hm' (by omega)
    by_cases hk : m = 0 ∨ l.toArray[m]! ≠ l.toArray[m - 1]!
    · rw [if_pos hk]
      refine ⟨List.pairwise_append.2 ⟨h1, by simp, fun a ha b hb => ?_⟩, fun x => by rw [ht, List.mem_append, List.mem_append, h2], fun _ => by simp [hm']⟩
      rw [List.mem_singleton] at hb
      subst hb
      rcases Pv.lin.tri a l[m] with e | e | e
      · exact e
      · exfalso
        rcases Nat.eq_zero_or_pos m with h0 | h0
        · subst h0; simp [Lib.compactUpTo] at ha
        · have hl := h3 h0
          have e1 : l.toArray[m]! = l[m] := by simp [hm']
          have e2 : l.toArray[m - 1]! = l[m - 1] := by simp [show m - 1 < l.length by omega]
          have hne : l[m] ≠ l[m - 1] := by
            rcases hk with hk | hk
            · omega
            · rwa [e1, e2] at hk
          have hlast : l[m - 1] ∈ Lib.compactUpTo l.toArray m := by
            refine List.mem_of_getLast? (hl.trans (List.getElem?_eq_getElem (by omega)))
          -- a is not behind the last one
          have hal : a = l[m - 1] ∨ Pv.lt a l[m - 1] := by
            rw [List.getElem?_eq_getElem (show m - 1 < l.length by omega)] at hl
            obtain ⟨ys, hy⟩ := List.getLast?_eq_some_iff.1 hl
            rw [hy] at ha h1
            rcases List.mem_append.1 ha with ha | ha
            · exact .inr ((List.pairwise_append.1 h1).2.2 a ha _ (by simp))
            · exact .inl (by simpa using ha)
          rcases hal with hal | hal
          · exact hne (by rw [← e, hal])
          · rw [e] at hal
            exact List.pairwise_iff_getElem.1 h (m - 1) m (by omega) hm' (by omega) hal
      · exact absurd e (hle a ha)
    · rw [if_neg hk, List.append_nil]
      have h0 : 0 < m := Nat.pos_of_ne_zero fun e => hk (.inl e)
      have e1 : l.toArray[m]! = l[m] := by simp [hm']
      have e2 : l.toArray[m - 1]! = l[m - 1] := by simp [show m - 1 < l.length by omega]
      have hq : l[m] = l[m - 1] := by
        refine Decidable.byContradiction fun e => hk (.inr ?_)
        rw [e1, e2]; exact e
      have hml : l[m - 1] ∈ l.take m := by
        rw [List.mem_iff_getElem]
        exact ⟨m - 1, by rw [List.length_take]; omega, by rw [List.getElem_take]⟩
      refine ⟨h1, fun x => ?_, fun _ => ?_⟩
      · rw [h2, ht, List.mem_append, List.mem_singleton]
        constructor
        · exact .inl
        · rintro (hx | rfl)
          · exact hx
          · rw [hq]; exact hml
      · rw [h3 h0, Nat.add_sub_cancel, List.getElem?_eq_getElem hm', List.getElem?_eq_getElem (by omega), hq]
theorem compact_sd {l l0 : List Pv} (h : l.Pairwise (fun a b => ¬ Pv.lt b a)) (hp : l.Perm l0) : Lib.compactUpTo l.toArray l.length = sd Pv.lt l0 := by
  obtain ⟨h1, h2, _⟩ := compact_rises h l.length (Nat.le_refl _)
  refine rises_uniq Pv.lin h1 (sd_rises Pv.lin _) fun x => ?_
  rw [h2, List.take_length, sd_mem Pv.lin, hp.mem_iff]
/-! ### The walk -/
theorem vc_take : ∀ (xs : List Pv) (k : Nat), (vc xs).take (k * 6) = vc (xs.take k)
  | [], k => by simp [vc]
  | x :: xs, 0 => by simp [vc]
  | x :: xs, k + 1 => by
    rw [show (k + 1) * 6 = k * 6 + 6 by omega]
    simp [vc, vc_take xs k]
theorem vc_drop : ∀ (xs : List Pv) (k : Nat), (vc xs).drop (k * 6) = vc (xs.drop k)
  | [], k => by simp [vc]
  | x :: xs, 0 => by simp
  | x :: xs, k + 1 => by
    rw [show (k + 1) * 6 = k * 6 + 6 by omega]
    simp [vc, vc_drop xs k]
theorem grownBy_setCells (w : World) (g o : Nat) (vs : List Value) {cur : Array Value} {t : TypeId} {fr : Nat × Nat} (h : w.heap[g]? = some (.cells cur t fr)) (hl : o + vs.length ≤ cur.size) : w.grownBy (w.setCells g o vs) (some g) := by
  rw [setCells_eq_setRow g t fr vs o w cur h hl]
  exact ⟨rfl, rfl, rfl, by simp, fun k _ hne => setRow_other w g k _ (fun hh => hne (by rw [hh]))⟩
/-- One value is laid. -/
theorem VRow.setAt {w : World} {base g n cap : Nat} {xs : List Pv} (h : VRow w base (.slice (some ⟨g, 0, none⟩) n cap) xs) {k : Nat} (hk : k < xs.length) (x : Pv) :
    VRow (w.setCells g (k * 6) (vc [x])) base (.slice (some ⟨g, 0, none⟩) n cap) (xs.set k x) ∧ w.grownBy (w.setCells g (k * 6) (vc [x])) (some g) := by
  rcases h.2 with ⟨h0, _⟩ | ⟨g', cap', cur, hv, h1, h2, h3, h4, h5, h6⟩
  · cases h0
  · cases hv
    have hs : k * 6 + (vc [x]).length ≤ cur.size := by
      rw [vc_length, h5]
      have : (k + 1) * 6 ≤ cap * 6 := Nat.mul_le_mul_right _ (by omega)
      simp only [List.length_cons, List.length_nil]
      omega
    refine ⟨?_, grownBy_setCells w g _ _ h2 hs⟩
    rw [setCells_eq_setRow g 36 (0, 0) (vc [x]) (k * 6) w cur h2 hs]
    have hn : (xs.set k x).length = xs.length := List.length_set ..
    unfold VRow
    rw [hn]
    refine ⟨by rw [vc_length, hn], .inr ⟨g, cap, _, rfl, h1, setRow_heap w g cur _ 36 (0, 0) h2, h3, h4, ?_, ?_⟩⟩
    · simp only [List.size_toArray, List.length_append, List.length_take, List.length_drop, Array.length_toList]
      rw [Nat.min_eq_left (by omega), ← h5]
      omega
    · have e1 : cur.toList.take (k * 6) = vc (xs.take k) := by
        rw [← vc_take, ← h6, List.take_take, Nat.min_eq_left (Nat.mul_le_mul_right _ (by omega))]
      have e2 : xs.set k x = xs.take k ++ [x] ++ xs.drop (k + 1) := by
        rw [List.set_eq_take_append_cons_drop, if_pos hk]
        simp
      have hl1 : (vc (xs.take k) ++ vc [x]).length = (k + 1) * 6 := by
        rw [List.length_append, vc_length, vc_length, List.length_take, Nat.min_eq_left (by omega)]
        simp only [List.length_cons, List.length_nil]
        omega
      show (cur.toList.take (k * 6) ++ vc [x] ++ cur.toList.drop (k * 6 + (vc [x]).length)).take (xs.length * 6) = _
      rw [e1, e2, vc_append, vc_append, ← vc_drop, ← h6, List.drop_take, List.take_append, hl1, List.take_of_length_le (by rw [hl1]; exact Nat.mul_le_mul_right _ (by omega))]
      congr 2
      simp only [vc_length, List.length_cons, List.length_nil]
      congr 1
      omega
/-- The row's head. -/
theorem VRow.head {w : World} {base g n cap : Nat} {xs : List Pv} (h : VRow w base (.slice (some ⟨g, 0, none⟩) n cap) xs) {k : Nat} (hk : k ≤ xs.length) : VRow w base (.slice (some ⟨g, 0, none⟩) k cap) (xs.take k) := by
  rcases h.2 with ⟨h0, _⟩ | ⟨g', cap', cur, hv, h1, h2, h3, h4, h5, h6⟩
  · cases h0
  · cases hv
    have hl : (xs.take k).length = k := by rw [List.length_take]; omega
    unfold VRow
    rw [hl]
    refine ⟨by rw [vc_length, hl], .inr ⟨g, cap, cur, rfl, h1, h2, by omega, h4, h5, ?_⟩⟩
    rw [← vc_take, ← h6, List.take_take, Nat.min_eq_left (Nat.mul_le_mul_right _ hk)]
/-- What lies behind the row's head turns. -/
theorem VRow.tail {w : World} {base g n cap : Nat} {xs : List Pv} (h : VRow w base (.slice (some ⟨g, 0, none⟩) n cap) xs) {m : Nat} (hm : xs.length ≤ m) (vs : List Value) (hv : m * 6 + vs.length ≤ cap * 6) :
    VRow (w.setCells g (m * 6) vs) base (.slice (some ⟨g, 0, none⟩) n cap) xs ∧ w.grownBy (w.setCells g (m * 6) vs) (some g) := by
  rcases h.2 with ⟨h0, _⟩ | ⟨g', cap', cur, hv, h1, h2, h3, h4, h5, h6⟩
  · cases h0
  · cases hv
    have hs : m * 6 + vs.length ≤ cur.size := by rw [h5]; exact hv
    refine ⟨?_, grownBy_setCells w g _ _ h2 hs⟩
    rw [setCells_eq_setRow g 36 (0, 0) vs (m * 6) w cur h2 hs]
    refine ⟨h.1, .inr ⟨g, cap, _, rfl, h1, setRow_heap w g cur _ 36 (0, 0) h2, h3, h4, ?_, ?_⟩⟩
    · simp only [List.size_toArray, List.length_append, List.length_take, List.length_drop, Array.length_toList]
      rw [Nat.min_eq_left (by omega), ← h5]
      omega
    · show (cur.toList.take (m * 6) ++ vs ++ cur.toList.drop (m * 6 + vs.length)).take (xs.length * 6) = _
      have hle : xs.length * 6 ≤ m * 6 := Nat.mul_le_mul_right _ hm
      have hlt : xs.length * 6 ≤ (cur.toList.take (m * 6)).length := by
        rw [List.length_take, Array.length_toList]
        exact Nat.le_min.2 ⟨hle, Nat.le_trans hle (Nat.le_trans (Nat.le_add_right _ _) hs)⟩
      rw [List.append_assoc, List.take_append_of_le_length hlt, List.take_take, Nat.min_eq_left hle, h6]
theorem VRow.blk {w : World} {base g n cap : Nat} {xs : List Pv} (h : VRow w base (.slice (some ⟨g, 0, none⟩) n cap) xs) : ∃ cc, w.heap[g]? = some (.cells cc 36 (0, 0)) ∧ cc.size = cap * 6 := by
  rcases h.2 with ⟨h0, _⟩ | ⟨g', cap', cur, hv, h1, h2, h3, h4, h5, h6⟩
  · cases h0
  · cases hv; exact ⟨cur, h2, h5⟩
theorem zeroCells_one (z : Array Value) (h : ∀ u ∈ z.toList, u.oneCell' = true) (n : Nat) : ∀ u ∈ (Builtin.zeroCells z n).toList, u.oneCell' = true := by
  intro u hu
  unfold Builtin.zeroCells at hu
  simp only [Array.toList_map, List.mem_map, Array.mem_toList_iff, Array.mem_range] at hu
  obtain ⟨i, hi, rfl⟩ := hu
  have h0 : 0 < z.size := by
    rcases Nat.eq_zero_or_pos z.size with e | e
    · rw [e] at hi; omega
    · exact e
  have hlt := Nat.mod_lt i h0
  rw [getElem!_pos z _ hlt]
  exact h _ (by simp)
set_option maxRecDepth 100000 in
theorem run_clear_vals (w : World) (g o n c : Nat) (hn : 0 < n) (hc : ∀ j, j < n * 6 → (w.cell? ⟨g, o + j, none⟩).isSome = true) (hf : ∀ j, j < n * 6 → w.frozen? ⟨g, o + j, none⟩ = false) :
    ∃ vs : List Value, vs.length = n * 6 ∧ ∀ ty, (Builtin.clear_ #[22] ty #[.slice (some ⟨g, o, none⟩) n c]).run Tryz.prog w = .ok (.tuple #[]) (w.setCells g o vs) := by
  have hz := fun w => Tryz.zeroValue36 w
  refine ⟨(Builtin.zeroCells (Value.agg #[.int .i64 0, .string ⟨#[]⟩, .int .u64 0, .string ⟨#[]⟩, .string ⟨#[]⟩, .string ⟨#[]⟩]).cells n).toList, by rw [Array.length_toList, size_zeroCells]; rfl, fun ty => ?_⟩
  have hl : (Builtin.zeroCells (Value.agg #[.int .i64 0, .string ⟨#[]⟩, .int .u64 0, .string ⟨#[]⟩, .string ⟨#[]⟩, .string ⟨#[]⟩]).cells n).toList.length = n * 6 := by rw [Array.length_toList, size_zeroCells]; rfl
  have hst := run_storeCells_cells (P := Tryz.prog) g o (Builtin.zeroCells (Value.agg #[.int .i64 0, .string ⟨#[]⟩, .int .u64 0, .string ⟨#[]⟩, .string ⟨#[]⟩, .string ⟨#[]⟩]).cells n).toList 0 w (by rw [hl]; simpa using hc) (by rw [hl]; simpa using hf) (zeroCells_one _ (vc_one [Pv.zero]) n)
  simp only [Nat.add_zero] at hst
  obtain ⟨m, rfl⟩ : ∃ m, n = m + 1 := ⟨n - 1, by omega⟩
  simp [Builtin.clear_, run_underlying Tryz.underlying22, hz, hst]
set_option maxRecDepth 100000 in
set_option maxHeartbeats 8000000 in
theorem compact_any (base : Nat) (u : Value) (l : List Pv) (w : World) (hx : VRow w base u l) (hn : l.length ≤ 1000000) :
    Calls Tryz.prog 69 #[u] w fun e w' => ∃ u', e = .returned u' ∧ VRow w' base u' (Lib.compactUpTo l.toArray l.length) ∧ w.grownBy w' u.ownBlock ∧ u'.ownBlock = u.ownBlock := by
  have HX := Lib.hid hx
  have HE := Lib.hid (fun a b x => eq_val a b x)
  unfold vv at HE
  by_cases h2 : l.length < 2
  · obtain ⟨A, c, rfl, _, _⟩ := hx.reads
    have hall := Lib.hid (show Lib.compactUpTo l.toArray l.length = l by
      rw [Lib.compactUpTo_all _ _ (fun j hj => Lib.keeps_lt_one _ j (by omega))]
      have := Lib.range_map_get l.toArray
      simpa using this)
    have p1 : decide ((l.length : Int) < 2) = true := decide_eq_true (by omega)
    clear h2 hx
    go_enter Tryz.func69, Tryz.ntmps69
    go_wp2
    go_ret
    exact ⟨_, rfl, by rw [hall.out]; exact HX.out, World.grownBy.refl _ _, rfl⟩
  · rcases id hx.2 with ⟨rfl, hn0⟩ | ⟨g, cap, cur, rfl, h1, h3, h4, h5, h6, h7⟩
    · omega
    have hV := hx.reads
    obtain ⟨A, c, e, hVv, _⟩ := hV
    cases e
    have HV := Lib.hid hVv
    have p1 : decide ((l.length : Int) < 2) = false := decide_eq_false (by omega)
    clear hVv hx h7
    go_enter Tryz.func69, Tryz.ntmps69
    go_wp2_with fail
    go_loopg [3] l.length (fun g3 s3 wr => ∃ k : Nat, 1 ≤ k ∧ k ≤ l.length ∧ l.length - k ≤ g3 ∧ s3 = .int .i64 k ∧ (∃ q, wr = w.drewN q) ∧ ∀ j, j < k → Lib.keeps l.toArray j = true)
    case atStart => exact ⟨1, Nat.le_refl _, by omega, by omega, rfl, ⟨0, rfl⟩, Lib.keeps_lt_one _⟩
    case round =>
      obtain ⟨k, hk1, hk, hg, rfl, ⟨q, rfl⟩, hall⟩ := hrel
      have HA := Lib.hid hall
      clear hall
      by_cases hlt : k < l.length
      · obtain ⟨g1, o1, x, e1, hg1, hxk, c0, c1, c2, c3, c4, c5⟩ := HV.out.at_ hlt
        cases e1
        obtain ⟨g2, o2, y, e2, hg2, hyk, d0, d1, d2, d3, d4, d5⟩ := HV.out.at_ (i := k - 1) (by omega)
        cases e2
        have q1 : decide ((k : Int) < (l.length : Int)) = true := decide_eq_true (by omega)
        have q2 : decide (k < l.length) = true := decide_eq_true hlt
        have q3 : (k : Int) - 1 = ((k - 1 : Nat) : Int) := by omega
        have q4 : decide (k - 1 < l.length) = true := decide_eq_true (by omega)
        simp only [Nat.zero_add] at c0 c1 c2 c3 c4 c5 d0 d1 d2 d3 d4 d5
        have B := Lib.hid (show l.toArray[k]! = x ∧ l.toArray[k - 1]! = y by
          obtain ⟨a1, a2⟩ := List.getElem?_eq_some_iff.1 hxk
          obtain ⟨a3, a4⟩ := List.getElem?_eq_some_iff.1 hyk
          exact ⟨by rw [← a2]; simp [hlt], by rw [← a4]; simp [show k - 1 < l.length by omega]⟩)
        clear hxk hyk
        by_cases e : x = y
        · have he := fun z => (HE.out x y z).trans (by rw [decide_eq_true e])
          have HD := Lib.hid (Lib.keeps_neg (d := l.toArray) (m := k) (by omega) (by rw [B.out.1, B.out.2, e]))
          clear e
          go_wp2_with fail
          go_quiet (fail)
          go_wp2_with fail
          have HST := Lib.hid (show ∃ (kk k2 : Nat) (dk : Array Pv), 1 ≤ k2 ∧ k + k2 ≤ l.length ∧ l.length - (k + k2) ≤ l.length ∧ (Value.int .i64 k) = .int .i64 kk ∧ (Value.int .i64 1) = .int .i64 k2 ∧ VRow (w.drewN (q + nq)) base (.slice (some ⟨g, 0, none⟩) l.length cap) dk.toList ∧ Lib.CompInv l.toArray (k + k2) kk dk ∧ w.grownBy (w.drewN (q + nq)) (some g) from
            ⟨k, 1, l.toArray, Nat.le_refl _, by omega, by omega, rfl, rfl, HX.out, Lib.CompInv.start HA.out HD.out, ⟨rfl, rfl, rfl, Nat.le_refl _, fun _ _ _ => rfl⟩⟩)
          clear c0 c1 c2 c3 c4 c5 d0 d1 d2 d3 d4 d5 he
          go_loopg [3, 5] l.length (fun g4 s3 s5 wx => ∃ (kk k2 : Nat) (dk : Array Pv), 1 ≤ k2 ∧ k + k2 ≤ l.length ∧ l.length - (k + k2) ≤ g4 ∧ s3 = .int .i64 kk ∧ s5 = .int .i64 k2 ∧ VRow wx base (.slice (some ⟨g, 0, none⟩) l.length cap) dk.toList ∧ Lib.CompInv l.toArray (k + k2) kk dk ∧ w.grownBy wx (some g))
          case atStart => exact HST.out
          case round =>
            clear HST
            obtain ⟨kk, k2, dk, h21, hk2, hg4, rfl, rfl, hrow, hI, hgr⟩ := hrel
            have HR := Lib.hid hrow
            have HI := Lib.hid hI
            have HG := Lib.hid hgr
            have hkk := hI.lt
            have hds : dk.size = l.length := by have := hI.size; simpa using this
            have hdl : dk.toList.length = l.length := by simpa using hds
            clear hrow hI hgr
            have hv2 : Vals wr (some ⟨g, 0, none⟩) cap dk.toList := HR.out.vals
            by_cases hlt2 : k + k2 < l.length
            · obtain ⟨g1, o1, x2, e1, hg1, hxm, c0, c1, c2, c3, c4, c5⟩ := hv2.at_ (i := k + k2) (by omega)
              cases e1
              obtain ⟨g2, o2, y2, e2, hg2, hym, d0, d1, d2, d3, d4, d5⟩ := hv2.at_ (i := k + (k2 - 1)) (by omega)
              cases e2
              obtain ⟨g3, o3, z2, e3, hg3, hzm, f0, f1, f2, f3, f4, f5⟩ := hv2.at_ (i := kk) (by omega)
              cases e3
              have C := Lib.hid (show l.toArray[k + k2]! = x2 ∧ l.toArray[k + k2 - 1]! = y2 by
                have a1 := HI.out.high (k + k2) (by omega)
                have a2 := HI.out.high (k + k2 - 1) (by omega)
                rw [show k + (k2 - 1) = k + k2 - 1 by omega] at hym
                rw [Array.getElem?_toList] at hxm hym
                obtain ⟨b1, b2⟩ := Array.getElem?_eq_some_iff.1 hxm
                obtain ⟨b3, b4⟩ := Array.getElem?_eq_some_iff.1 hym
                exact ⟨by rw [← a1, getElem!_pos dk _ b1, b2], by rw [← a2, getElem!_pos dk _ b3, b4]⟩)
              have r1 : decide ((k2 : Int) < ((l.length - k : Nat) : Int)) = true := decide_eq_true (by omega)
              have r2 : decide (k2 < l.length - k) = true := decide_eq_true (by omega)
              have r3 : (k2 : Int) - 1 = ((k2 - 1 : Nat) : Int) := by omega
              have r4 : decide (k2 - 1 < l.length - k) = true := decide_eq_true (by omega)
              have r5 : decide (kk < l.length) = true := decide_eq_true (by omega)
              simp only [Nat.zero_add, Nat.add_mul] at c0 c1 c2 c3 c4 c5 d0 d1 d2 d3 d4 d5 f0 f1 f2 f3 f4 f5
              clear hxm hym hzm hv2
              by_cases e : x2 = y2
              · have he := fun z => (HE.out x2 y2 z).trans (by rw [decide_eq_true e])
                have HI2 := Lib.hid (HI.out.skip (Lib.keeps_neg (by omega) (by rw [C.out.1, C.out.2, e])))
                clear e
                go_wp2_with fail
                go_quiet (fail)
                go_wp2_with fail
                go_roundg (l.length - (k + (k2 + 1)))
                case measure => omega
                case rel => exact ⟨kk, k2 + 1, dk, by omega, by omega, Nat.le_refl _, rfl, by go_num, HR.out, HI2.out, ⟨HG.out.os, HG.out.tape, HG.out.output, HG.out.size, HG.out.block⟩⟩
              · have he := fun z => (HE.out x2 y2 z).trans (by rw [decide_eq_false e])
                have HI2 := Lib.hid (HI.out.keep (by simpa using hlt2) (Lib.keeps_pos (by rw [C.out.1, C.out.2]; exact e)))
                obtain ⟨cc, hcc, hcs⟩ := HR.out.blk
                have t0 := (blk_facts hcc).2 (kk * 6)
                have t1 := (blk_facts hcc).2 (kk * 6 + 1)
                have t2 := (blk_facts hcc).2 (kk * 6 + 2)
                have t3 := (blk_facts hcc).2 (kk * 6 + 3)
                have t4 := (blk_facts hcc).2 (kk * 6 + 4)
                have t5 := (blk_facts hcc).2 (kk * 6 + 5)
                clear e hcc hcs
                go_wp2_with fail
                go_quiet (fail)
                have HSA := Lib.hid (VRow.setAt (show VRow (wr.drewN nq) base (.slice (some ⟨g, 0, none⟩) l.length cap) dk.toList from HR.out) (k := kk) (by omega) x2)
                go_wp2_with fail
                have hdk : (dk.setIfInBounds kk l.toArray[k + k2]!).toList = dk.toList.set kk x2 := by rw [C.out.1, Array.toList_setIfInBounds]
                have HDK := Lib.hid hdk
                clear hdk t0 t1 t2 t3 t4 t5
                go_roundg (l.length - (k + (k2 + 1)))
                case measure => omega
                case rel => exact ⟨kk + 1, k2 + 1, _, by omega, by omega, Nat.le_refl _, by go_num, by go_num, by rw [HDK.out]; exact HSA.out.1, HI2.out, grownBy_trans HG.out (show wr.grownBy _ (some g) from ⟨HSA.out.2.os, HSA.out.2.tape, HSA.out.2.output, HSA.out.2.size, HSA.out.2.block⟩) (.inl rfl)⟩
            · have hend : k + k2 = l.length := by omega
              rw [hend] at HI
              have hlen := HI.out.len
              obtain ⟨cc, hcc, hcs⟩ := HR.out.blk
              have hroom : (kk + (l.length - kk)) * 6 ≤ cap * 6 := Nat.mul_le_mul_right _ (by omega)
              obtain ⟨vs, hvs, hcl⟩ := run_clear_vals wr g (kk * 6) (l.length - kk) (cap - kk) (by omega) (fun j hj => by
                rw [(blk_facts hcc).1]; simp; omega) (fun j hj => (blk_facts hcc).2 _)
              have r1 : decide ((k2 : Int) < ((l.length - k : Nat) : Int)) = false := decide_eq_false (by omega)
              have r2 : decide (k2 < l.length - k) = false := decide_eq_false (by omega)
              have HFIN := Lib.hid (show Lib.compactUpTo l.toArray l.length = dk.toList.take kk by
                refine List.ext_getElem? fun j => ?_
                by_cases hj : j < kk
                · rw [HI.out.low j hj, List.getElem?_take_of_lt hj, Array.getElem?_toList, getElem!_pos dk j (by omega), Array.getElem?_eq_getElem (by omega)]
                · rw [List.getElem?_eq_none (by omega), List.getElem?_take_eq_none (by omega)])
              have HH := Lib.hid ((HR.out.head (k := kk) (by omega)).tail (m := kk) (by rw [List.length_take]; omega) vs (by rw [hvs]; have : (kk + (l.length - kk)) * 6 ≤ cap * 6 := hroom; omega))
              have s1 : decide (kk ≤ l.length) = true := decide_eq_true (by omega)
              have s2 : kk ≤ l.length := by omega
              have s3 : kk ≤ cap := by omega
              have s4 : ¬ cap = kk := by omega
              clear hcc hcs hlen hend hv2
              go_wp2
              go_ret
              exact ⟨_, rfl, by rw [HFIN.out]; exact HH.out.1, grownBy_trans HG.out HH.out.2 (.inl rfl), rfl⟩
        · have he := fun z => (HE.out x y z).trans (by rw [decide_eq_false e])
          have HD := Lib.hid (Lib.keeps_pos (d := l.toArray) (m := k) (by rw [B.out.1, B.out.2]; exact e))
          clear e
          go_wp2_with fail
          go_quiet (fail)
          go_wp2_with fail
          go_roundg (l.length - (k + 1))
          case measure => omega
          case rel => exact ⟨k + 1, by omega, by omega, Nat.le_refl _, by go_num, ⟨_, rfl⟩, fun j hj => by
            by_cases ej : j = k
            · subst ej; exact HD.out
            · exact HA.out j (by omega)⟩
      · obtain rfl : k = l.length := by omega
        have q1 : decide ((l.length : Int) < (l.length : Int)) = false := decide_eq_false (by omega)
        have q2 : decide (l.length < l.length) = false := decide_eq_false (by omega)
        have hfin := Lib.hid (show Lib.compactUpTo l.toArray l.length = l by
          rw [Lib.compactUpTo_all _ _ HA.out]
          have := Lib.range_map_get l.toArray
          simpa using this)
        go_wp2
        go_ret
        exact ⟨_, rfl, by rw [hfin.out]; exact HX.out, ⟨rfl, rfl, rfl, Nat.le_refl _, fun _ _ _ => rfl⟩, rfl⟩
end Go.Proofs.YtkdamaomhppkgaaGreat

/- The walks of the library at rows of values: Clone, Grow of the nil row, Concat of two rows. -/
namespace Go.Proofs.YtkdamaomhppkgaaGreat
open Go.RowKit Go.Shelf

set_option maxHeartbeats 1000000 in
set_option maxRecDepth 100000 in
theorem clone_any (A : Option Addr) (c : Nat) (l : List Pv) (w : World) (hx : Vals w A c l) (hn : l.length ≤ 1000000000) (hA : A = none → c = 0) :
    Calls Tryz.prog 21 #[.slice A l.length c] w fun e w' => ∃ u, e = .returned u ∧ VRow w' w.heap.size u l ∧ Below w.heap.size w w' := by
  have HX := Lib.hid hx
  have qn : ∀ (w : World) (a : Option Addr) (n c : Nat), (binOp .eql 22 (.slice a n c) (.slice none 0 0)).run Tryz.prog w = .ok (.bool a.isNone) w := fun w a n c => Lib.run_eql_slice_nil w _ _ _ _ _ _ _ Tryz.underlying22
  clear hx
  cases A with
  | none =>
    obtain rfl : l = [] := by
      cases l with
      | nil => rfl
      | cons x l => obtain ⟨g, o, e, _⟩ := HX.out.2 (by simp); cases e
    obtain rfl := hA rfl
    clear hA HX
    go_enter Tryz.func21, Tryz.ntmps21
    go_wp2
    go_ret
    exact ⟨_, rfl, VRow.nil _ _, Below.refl _ _⟩
  | some a =>
    clear hA
    go_enter Tryz.func21, Tryz.ntmps21
    go_wp2_with (at_builtin; refine wpList_appV rfl _ _ rfl w.heap.size (.slice (some ⟨_, 0, none⟩) 0 0) [] rfl (fresh0 (heap_alloc_new _ _) (Nat.le_refl _)) _ l rfl (HX.out.src ((Below.refl _ _).alloc (Nat.le_refl _) _)) (by simp; omega) (by simp) ?_; intro v1 w1 hr1 hp1)
    have hb1 := Lib.hid (show Below w.heap.size w w1 from Below.trans ((Below.refl _ _).alloc (Nat.le_refl _) _) (hp1.below (by simp) (fun k hk => by cases hk; simp)))
    have HR := Lib.hid hr1
    clear hr1 hp1
    go_ret
    exact ⟨_, rfl, HR.out, hb1.out⟩

def grow_ren : Go.Shelf.Ren := ⟨fun | 4 => 67 | n => n, fun | 0 => 0 | 3 => 3 | 4 => 4 | 9 => 9 | 20 => 20 | 22 => 22 | 25 => 36 | n => n, fun | n => n⟩
theorem grow_lays : Lays8.n4 Tryz.prog grow_ren := {
  mixed := by kernel_rfl
  f4 := ⟨Tryz.f67.name, by decide, Tryz.func67.trans (congrArg some (by kernel_rfl))⟩
  t0 := Tryz.underlying0
  a0 := Tryz.isAgg0
  z0 := Tryz.sizeOf0
  v0 := Tryz.zeroValue0
  t3 := Tryz.underlying3
  a3 := Tryz.isAgg3
  z3 := Tryz.sizeOf3
  v3 := Tryz.zeroValue3
  t4 := Tryz.underlying4
  a4 := Tryz.isAgg4
  z4 := Tryz.sizeOf4
  v4 := Tryz.zeroValue4
  t9 := Tryz.underlying9
  a9 := Tryz.isAgg9
  z9 := Tryz.sizeOf9
  v9 := Tryz.zeroValue9
  t20 := Tryz.underlying20
  a20 := Tryz.isAgg20
  z20 := Tryz.sizeOf20
  v20 := Tryz.zeroValue20
  t22 := Tryz.underlying22
  a22 := Tryz.isAgg22
  z22 := Tryz.sizeOf22
  v22 := Tryz.zeroValue22
}
theorem grow_nil (n : Nat) (w : World) (hn : 0 < n) (hb : n ≤ 100000000) :
    Calls Tryz.prog 67 #[.slice none 0 0, .int .i64 n] w fun e w' => ∃ u, e = .returned u ∧ VRow w' w.heap.size u [] ∧ Below w.heap.size w w' := by
  obtain ⟨i0, hi, hz0, hz1, hz2⟩ := info_parts infoVal
  refine (Any8.slices_Grow_grow grow_lays i0 _ hi hz0 (by omega) none 0 0 n [] w (Nat.le_refl _) (by omega) (by rw [hz2]; omega) (by omega) (by simp) (fun _ => rfl) (fun a e => by cases e)).mono ?_
  rintro e w' ⟨rfl, rfl⟩
  refine ⟨_, rfl, ⟨rfl, .inr ⟨w.heap.size, _, _, rfl, Nat.le_refl _, heap_alloc_new w.drew _, ?_, ?_, ?_, ?_⟩⟩, ((Below.refl w.heap.size w).drew).alloc (Nat.le_refl _) _⟩
  · exact Nat.zero_le _
  · exact grownCap_le_maxLen _ _ _ _ (by unfold maxLen; omega)
  · have := grownCap_ge w (0 + n) 0 (grow_ren.t 25)
    simp only [List.size_toArray, List.length_nil, Array.size_append, size_zeroCells]
    rw [show (Value.agg #[.int .i64 0, .string ⟨#[]⟩, .int .u64 0, .string ⟨#[]⟩, .string ⟨#[]⟩, .string ⟨#[]⟩]).cells.size = 6 from rfl]
    omega
  · rfl
set_option maxHeartbeats 1000000 in
set_option maxRecDepth 100000 in
theorem grow_zero (w : World) : Calls Tryz.prog 67 #[.slice none 0 0, .int .i64 0] w fun e w' => ∃ u, e = .returned u ∧ VRow w' w.heap.size u [] ∧ Below w.heap.size w w' := by
  go_enter Tryz.func67, Tryz.ntmps67
  go_wp2
  go_ret
  exact ⟨_, rfl, VRow.nil _ _, Below.refl _ _⟩
set_option maxHeartbeats 4000000 in
set_option maxRecDepth 100000 in
theorem concat_any (S : Nat) (A : Option Addr) (c : Nat) (l : List Pv) (B : Option Addr) (d : Nat) (m : List Pv) (w : World) (hS : w.heap[S]? = some (.cells #[.slice A l.length c, .slice B m.length d] 22 (0, 0)))
    (hA : Vals w A c l) (hB : Vals w B d m) (hn : l.length ≤ 1000000) (hm : m.length ≤ 1000000) :
    Calls Tryz.prog 40 #[.slice (some ⟨S, 0, none⟩) 2 2] w fun e w' => ∃ v, e = .returned v ∧ VRow w' w.heap.size v (l ++ m) ∧ Below w.heap.size w w' := by
  obtain ⟨f1, _⟩ := blk_facts hS
  have c0 : w.cell? ⟨S, 0, none⟩ = some (.slice A l.length c) := f1 0
  have c1 : w.cell? ⟨S, 1, none⟩ = some (.slice B m.length d) := f1 1
  have hSz := (Array.getElem?_eq_some_iff.1 hS).1
  have HS := Lib.hid hS
  have HA := Lib.hid hA
  have HB := Lib.hid hB
  clear f1 hS hA hB
  have q1 : decide ((0 : Int) < 2) = true := rfl
  have q2 : decide ((1 : Int) < 2) = true := rfl
  have q3 : decide ((2 : Int) < 2) = false := rfl
  have q4 : decide ((l.length : Int) + (m.length : Int) < 0) = false := decide_eq_false (by omega)
  have q5 : decide ((l.length : Int) < 0) = false := decide_eq_false (by omega)
  have HG := Lib.hid (show Calls Tryz.prog 67 #[.slice none 0 0, .int .i64 ((l.length : Int) + (m.length : Int))] w fun e w' => ∃ u, e = .returned u ∧ VRow w' w.heap.size u [] ∧ Below w.heap.size w w' by
    rw [← Int.natCast_add]
    by_cases h0 : l.length + m.length = 0
    · rw [h0]; exact grow_zero w
    · exact grow_nil (l.length + m.length) w (by omega) (by omega))
  go_enter Tryz.func40, Tryz.ntmps40
  go_wp2_with fail
  refine wp_loop_rounds 3 ?_
  rw [rounds_succ]; go_wp2_with fail
  rw [rounds_succ]; go_wp2_with fail
  rw [rounds_succ]; go_wp2_with fail
  refine HG.out.mono ?_
  rintro e w1 ⟨u, rfl, hown, hb1⟩
  have hS1 := (hb1.block S hSz).trans HS.out
  obtain ⟨f1, _⟩ := blk_facts hS1
  have e0 : w1.cell? ⟨S, 0, none⟩ = some (.slice A l.length c) := f1 0
  have e1 : w1.cell? ⟨S, 1, none⟩ = some (.slice B m.length d) := f1 1
  have HS1 := Lib.hid hS1
  have HO := Lib.hid hown
  have HB1 := Lib.hid hb1
  have hs1 := hb1.size
  clear f1 hS1 hown hb1 c0 c1 HG
  go_wp2_with fail
  refine wp_loop_rounds 3 ?_
  rw [rounds_succ]
  go_wp2_with (at_builtin; refine wpList_appV rfl _ _ rfl w.heap.size u [] rfl HO.out _ l rfl (HA.out.src HB1.out) (by simp; omega) hs1 ?_; intro v2 w2 hr2 hp2)
  have HB2 := Lib.hid (HB1.out.trans (hp2.below hs1 (fun k hk => HO.out.base_le hk)))
  have hS2 := (HB2.out.block S hSz).trans HS.out
  obtain ⟨f1, _⟩ := blk_facts hS2
  have g0 : w2.cell? ⟨S, 0, none⟩ = some (.slice A l.length c) := f1 0
  have g1 : w2.cell? ⟨S, 1, none⟩ = some (.slice B m.length d) := f1 1
  have HO2 := Lib.hid (show VRow w2 w.heap.size v2 l from hr2)
  have hs2 := HB2.out.size
  clear f1 hS2 hr2 hp2 e0 e1
  go_wp2_with fail
  rw [rounds_succ]
  go_wp2_with (at_builtin; refine wpList_appV rfl _ _ rfl w.heap.size v2 l rfl HO2.out _ m rfl (HB.out.src HB2.out) (by omega) hs2 ?_; intro v3 w3 hr3 hp3)
  have HB3 := Lib.hid (HB2.out.trans (hp3.below hs2 (fun k hk => HO2.out.base_le hk)))
  have HO3 := Lib.hid hr3
  clear hr3 hp3 g0 g1
  go_wp2_with fail
  rw [rounds_succ]
  go_wp2
  go_ret
  exact ⟨_, rfl, HO3.out, HB3.out⟩
end Go.Proofs.YtkdamaomhppkgaaGreat

/- The walk of layer 19: all that values need, by the program. -/
namespace Go.Proofs.YtkdamaomhppkgaaGreat
open Go.RowKit Go.Maps

theorem Pv.fits_needs {v x : Pv} (h : v.fits) (hx : x ∈ v.needs) : x.fits := by
  obtain ⟨h0, h1, h2, h3, h4, h5⟩ := h
  have i1 : I64 1 := by unfold I64; omega
  have i7 : I64 7 := by unfold I64; omega
  have i12 : I64 12 := by unfold I64; omega
  have t : ∀ s : List UInt8, s.length ≤ 140737488355328 → (Pv.ofText s).fits := fun s hs => ⟨i1, by simp [Pv.ofText], hs, by simp [Pv.ofText], by simp [Pv.ofText], by simp [Pv.ofText]⟩
  unfold Pv.needs at hx
  split at hx
  · simp only [List.mem_singleton] at hx
    subst hx
    exact t _ h2
  · split at hx
    · simp only [List.mem_cons, List.not_mem_nil, or_false] at hx
      rcases hx with rfl | rfl
      · exact t _ h4
      · exact t _ h5
    · split at hx
      · simp only [List.mem_cons, List.not_mem_nil, or_false] at hx
        rcases hx with rfl | rfl
        · exact ⟨i7, by simp [Pv.ofCls], h3, by simp [Pv.ofCls], by simp [Pv.ofCls], by simp [Pv.ofCls]⟩
        · exact ⟨i12, by simp [Pv.ofPair], by simp [Pv.ofPair], by simp [Pv.ofPair], h4, h5⟩
      · simp at hx
theorem Pv.fits_cl {l : List Pv} (h : ∀ v ∈ l, v.fits) {x : Pv} (hx : x ∈ clAll l) : x.fits := clAll_least (S := Pv.fits) h (fun _ hx _ hy => Pv.fits_needs hx hy) hx
/-- What is found, and what is to be done. -/
structure Clo (l : List Pv) (S : Pv → Bool) (T : List Pv) : Prop where
  sound : ∀ x, S x = true → x ∈ clAll l
  soundT : ∀ x ∈ T, x ∈ clAll l
  start : ∀ x ∈ l, S x = true ∨ x ∈ T
  need : ∀ x, S x = true → ∀ y ∈ x.needs, S y = true ∨ y ∈ T
section
variable {l T : List Pv} {S : Pv → Bool} {v : Pv}
theorem Clo.begin : Clo l (fun _ => false) l := ⟨by simp, fun x hx => clAll_has hx, fun x hx => .inr hx, by simp⟩
theorem Clo.old (h : Clo l S (T ++ [v])) (h1 : S v = true) : Clo l S T := by
  have step : ∀ x, S x = true ∨ x ∈ T ++ [v] → S x = true ∨ x ∈ T := fun x h3 => by
    rcases h3 with h3 | h3
    · exact .inl h3
    · rcases List.mem_append.1 h3 with h3 | h3
      · exact .inr h3
      · rw [List.mem_singleton] at h3
        subst h3
        exact .inl h1
  exact ⟨h.sound, fun x hx => h.soundT x (by simp [hx]), fun x hx => step x (h.start x hx), fun x hx y hy => step y (h.need x hx y hy)⟩
theorem Clo.add (h : Clo l S (T ++ [v])) : Clo l (fun x => decide (x = v) || S x) (T ++ v.needs) := by
  have hv : v ∈ clAll l := h.soundT v (by simp)
  have step : ∀ x, S x = true ∨ x ∈ T ++ [v] → (decide (x = v) || S x) = true ∨ x ∈ T ++ v.needs := fun x h3 => by
    rcases h3 with h3 | h3
    · exact .inl (by simp [h3])
    · rcases List.mem_append.1 h3 with h3 | h3
      · exact .inr (by simp [h3])
      · rw [List.mem_singleton] at h3
        subst h3
        exact .inl (by simp)
  refine ⟨fun x hx => ?_, fun x hx => ?_, fun x hx => step x (h.start x hx), fun x hx y hy => ?_⟩
  · simp only [Bool.or_eq_true, decide_eq_true_eq] at hx
    rcases hx with rfl | hx
    · exact hv
    · exact h.sound x hx
  · rcases List.mem_append.1 hx with hx | hx
    · exact h.soundT x (by simp [hx])
    · exact clAll_closed hv hx
  · simp only [Bool.or_eq_true, decide_eq_true_eq] at hx
    rcases hx with rfl | hx
    · exact .inr (by simp [hy])
    · exact step y (h.need x hx y hy)
theorem Clo.fin (h : Clo l S []) (x : Pv) : S x = true ↔ x ∈ clAll l := by
  refine ⟨h.sound x, fun hx => clAll_least (S := fun x => S x = true) (fun y hy => ?_) (fun y hy z hz => ?_) hx⟩
  · rcases h.start y hy with h3 | h3
    · exact h3
    · simp at h3
  · rcases h.need y hy z hz with h3 | h3
    · exact h3
    · simp at h3
end
/-- Between two rounds. -/
def CloSt (l : List Pv) (w : World) (N : Nat) (t : Value) (g : Nat) (x : World) : Prop :=
  ∃ S T n, wts T ≤ g ∧ n + wts T ≤ N ∧ Clo l S T ∧ VSet x w.heap.size n S ∧ VOff x w.heap.size t T ∧ Below w.heap.size w x
/-- What the call comes to. -/
def CloOk (l : List Pv) (w : World) (e : Ending) (w' : World) : Prop :=
  ∃ S n, e = .returned (.map (some w.heap.size)) ∧ VSet w' w.heap.size n S ∧ (∀ x, S x = true ↔ x ∈ clAll l) ∧ n ≤ 7 * l.length ∧ Below w.heap.size w w'
set_option maxHeartbeats 8000000 in
set_option maxRecDepth 100000 in
theorem closure_any (A : Option Addr) (c : Nat) (l : List Pv) (w : World) (hx : Vals w A c l) (hn : l.length ≤ 100000) (hA : A = none → c = 0) (hf : ∀ v ∈ l, v.fits) :
    Calls Tryz.prog 42 #[.slice A l.length c] w (CloOk l w) := by
  have k0 := Lib.hid ((Below.refl w.heap.size w).alloc (Nat.le_refl _) (.map #[] 0))
  have HV := Lib.hid (VSet.made w)
  have HC := Lib.hid (clone_any A c l (w.alloc (.map #[] 0)) (hx.grow k0.out) (by omega) hA)
  have HFT := Lib.hid (fun x hx => Pv.fits_cl hf (x := x) hx)
  have HND := Lib.hid (fun v w => needs_any v w)
  unfold vv at HND
  have hmm := @run_makeMap Tryz.prog
  clear hx hf hA
  go_enter Tryz.func42, Tryz.ntmps42
  go_wp2_with fail
  clear hmm
  generalize w.alloc (.map #[] 0) = W at k0 HV HC ⊢
  refine HC.out.mono ?_
  rintro e w1 ⟨u, rfl, hr, hb⟩
  have HST := Lib.hid (show CloSt l w (7 * l.length) u (7 * l.length) w1 from
    ⟨_, l, 0, wts_le l, by have := wts_le l; omega, Clo.begin, HV.out.grow hb, (VOff.of hr).lower k0.out.size, k0.out.trans (hb.mono k0.out.size)⟩)
  clear hr hb HC HV k0
  go_wp2_with fail
  go_loopg [4] (7 * l.length) (fun g t wx => CloSt l w (7 * l.length) t g wx)
  case atStart => exact HST.out
  case round =>
    clear HST
    obtain ⟨S, T, n, hg, hN, hC, hV, hT, hB⟩ := hrel
    have HC := Lib.hid hC
    have HV := Lib.hid hV
    have HT := Lib.hid hT
    have HB := Lib.hid hB
    clear hC hV hT hB
    rcases List.eq_nil_or_concat T with rfl | ⟨T', v, rfl⟩
    · obtain ⟨A4, c4, rfl, hV4⟩ := HT.out.reads
      have HF := Lib.hid (fun x => HC.out.fin x)
      clear hV4 HT HC
      go_wp2
      go_ret
      exact ⟨S, n, rfl, HV.out, HF.out, by omega, HB.out⟩
    · rw [List.concat_eq_append] at HT HC hg hN
      obtain ⟨g, o, c', rfl, hbg, hgl, hc', ⟨c0, c1, c2, c3, c4, c5⟩, hnx⟩ := HT.out.pop
      have HN := Lib.hid hnx
      have HFV := Lib.hid (HFT.out v (HC.out.soundT v (by simp)))
      have k1 := Lib.hid ((Below.refl wr.heap.size wr).alloc (Nat.le_refl _) (.cells #[.int .i64 v.tag, .string (bs v.text), .int .u64 v.bits, .string (bs v.cls), .string (bs v.name), .string (bs v.desc)] 36))
      have q1 := Lib.hid (vbox_new wr v)
      rw [wts_append, show wts [v] = v.wt + 0 from wts_cons v []] at hg hN
      have hwv := wt_pos v
      have hTb : T'.length ≤ 1000000 := by have := wts_len T'; omega
      have hlk := (HV.out.grow k1.out).look HFV.out.k
      unfold vv at hlk
      have p1 : decide ((0 : Int) < (T'.length : Int) + 1) = true := decide_eq_true (by omega)
      clear hnx HT
      by_cases hS : S v = true
      · rw [hS] at hlk
        have HC2 := Lib.hid (HC.out.old hS)
        clear hS
        go_wp2_with fail
        go_roundg (gk - 1)
        case measure => omega
        case rel => exact ⟨S, T', n, by omega, by omega, HC2.out, HV.out.grow k1.out, HN.out.grow k1.out, HB.out.trans (k1.out.mono HB.out.size)⟩
      · rw [Bool.eq_false_iff.2 hS] at hlk
        have HC2 := Lib.hid (HC.out.add)
        have hwn := wts_needs v
        have hnl := v.needs_len
        clear hS
        have HVK := Lib.hid (HV.out.grow k1.out)
        have hnm : n < maxLen := by unfold maxLen; omega
        have hvv : Value.agg #[.int .i64 v.tag, .string (bs v.text), .int .u64 v.bits, .string (bs v.cls), .string (bs v.name), .string (bs v.desc)] = vv v := rfl
        have HVV := Lib.hid hvv
        have HNM := Lib.hid hnm
        clear hvv hnm
        have hml := HV.out.lt
        have HNV := Lib.hid (HN.out.grow k1.out)
        have HNE := Lib.hid (show some w.heap.size ≠ (Value.slice (some ⟨g, o, none⟩) T'.length c').ownBlock by
          obtain ⟨D, ⟨es, clock, hb, _⟩, _⟩ := HVK.out
          exact OffRow.ne_obj HNV.out hb (fun cur e => by cases e))
        go_wp2_with (at_mapUpdate; refine wpList_setPut rfl _ _ _ rfl w.heap.size n S v rfl HVK.out HNM.out HFV.out.k rfl rfl ?_; intro w5 hV5 hg5; have q5 : VBox w5 wr.heap.size v := (hg5.block _ (by simp) (fun e => by have := Option.some.inj e; omega)).trans q1.out; obtain ⟨d0, d1, d2, d3, d4, d5⟩ := q5.at_; have hqs := q5.lt; have HV5 := Lib.hid hV5; have HG5 := Lib.hid hg5; clear hV5 hg5 q5)
        have hkN : VOff w5 w.heap.size (.slice (some ⟨g, o, none⟩) T'.length c') T' := OffRow.kept HNV.out HG5.out (.inr HNE.out)
        have HKN := Lib.hid hkN
        have KB := Lib.hid ((HB.out.trans (k1.out.mono HB.out.size)).grown HG5.out (Nat.le_trans HB.out.size k1.out.size) (fun j hj => by cases hj; exact Nat.le_refl _))
        refine (HND.out v w5).mono ?_
        rintro e w6 ⟨u31, rfl, hr6, hb6⟩
        obtain ⟨A6, c6, rfl, hV6, hA6⟩ := hr6.reads
        have HV6 := Lib.hid hV6
        have HR6 := Lib.hid hb6
        clear hr6 hV6 hA6 hb6 d0 d1 d2 d3 d4 d5 hqs hkN hlk c0 c1 c2 c3 c4 c5
        go_wp2_with (at_builtin; refine wpList_appO rfl _ _ rfl w.heap.size (.slice (some ⟨g, o, none⟩) T'.length c') T' rfl (HKN.out.grow HR6.out) _ v.needs rfl (HV6.out.src (Below.refl _ _)) (by omega) (Nat.le_trans KB.out.size HR6.out.size) ?_; intro v7 w7 hr7 hp7)
        have S7 := Lib.hid hr7
        have V7 := Lib.hid ((HV5.out.grow HR6.out).kept hp7.1 HNE.out)
        have B7 := Lib.hid ((KB.out.trans (HR6.out.mono KB.out.size)).trans (hp7.below (Nat.le_trans KB.out.size HR6.out.size) (fun k hk => (HKN.out.base_le hk).1)))
        clear hr7 hp7
        go_roundg (gk - 1)
        case measure => omega
        case rel => exact ⟨_, T' ++ v.needs, n + 1, by rw [wts_append]; omega, by rw [wts_append]; omega, HC2.out, V7.out, S7.out, B7.out⟩
end Go.Proofs.YtkdamaomhppkgaaGreat
