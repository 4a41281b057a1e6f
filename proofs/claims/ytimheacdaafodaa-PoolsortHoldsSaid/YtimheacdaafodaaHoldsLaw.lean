/- The walk of layer 19's second law. -/
import Derived.Test.YtimheacdaafodaaFixed
import Derived.Test.YtimheacdaafodaaLaw
import Derived.Test.YtimheacdaafodaaWalksH
namespace Go.Proofs.Ytimheacdaafodaa
open Go.RowKit Go.Maps

set_option maxHeartbeats 8000000 in
set_option maxRecDepth 100000 in
theorem holdslaw_any (A B : Option Addr) (c d : Nat) (low all : List Pv) (w : World) (hx : Vals w A c low) (hy : Vals w B d all) (hA : A = none → c = 0) (hn : low.length ≤ 140737488355328) (hm : all.length ≤ 140737488355328) (hf : ∀ v ∈ low ++ all, v.fits) :
    Calls Try.prog 4 #[.slice A low.length c, .slice B all.length d] w fun e w' => e = .returned (.bool true) ∧ Below w.heap.size w w' := by
  have HX := Lib.hid hx
  have HY := Lib.hid hy
  have HFT := Lib.hid hf
  have HAN := Lib.hid hA
  have HFX := Lib.hid fixed_any
  have HF1 := Lib.hid (fun w h => few_any A c low w h hn (fun x hx => hf x (List.mem_append_left _ hx)))
  have HF2 := Lib.hid (fun w h => few_any B d all w h hm (fun x hx => hf x (List.mem_append_right _ hx)))
  clear hx hy hf hA
  go_enter Try.func4, Try.ntmps4
  go_wp2_with fail
  refine (HFX.out w).mono ?_
  rintro e w1 ⟨rfl, hb1⟩
  have K1 := Lib.hid hb1
  clear hb1 HFX
  go_wp2_with fail
  refine (HF1.out w1 (HX.out.grow K1.out)).mono ?_
  rintro e w2 ⟨rfl, hb2⟩
  have K2 := Lib.hid (K1.out.trans (hb2.mono K1.out.size))
  clear hb2 K1 HF1
  cases f1 : Pv.few low with
  | false =>
    go_wp2_with fail
    go_ret
    exact ⟨rfl, K2.out⟩
  | true =>
    have L1 := few_len f1
    clear f1
    go_wp2_with fail
    refine (HF2.out w2 (HY.out.grow K2.out)).mono ?_
    rintro e w3 ⟨rfl, hb3⟩
    have K3 := Lib.hid (K2.out.trans (hb3.mono K2.out.size))
    clear hb3 K2 HF2
    cases f2 : Pv.few all with
    | false =>
      go_wp2_with fail
      go_ret
      exact ⟨rfl, K3.out⟩
    | true =>
      have L2 := few_len f2
      clear f2
      go_wp2_with fail
      refine (new_any A B c d low all w3 (HX.out.grow K3.out) (HY.out.grow K3.out) HAN.out (by omega) (by omega) HFT.out).mono ?_
      rintro e w4 ⟨hnew, hb4⟩
      have K4 := Lib.hid (K3.out.trans (hb4.mono K3.out.size))
      clear hb4 K3 HAN
      rcases hnew with ⟨herr, rfl⟩ | ⟨herr, b, u, m, n, rfl, hp⟩
      · generalize Pv.errOf (low ++ all) = er at *
        have he : (er != 0) = true := by simpa using herr
        go_wp2_with fail
        go_ret
        exact ⟨rfl, K4.out⟩
      · have hol := ord_len low all
        have HFO := Lib.hid (fun x (hx : x ∈ Pv.ord low all) => Pv.fits_cl HFT.out ((Pv.ord_mem low all x).1 hx))
        have HCL := Lib.hid (show ∀ v ∈ Pv.ord low all, ∀ x ∈ v.needs, x ∈ Pv.ord low all from fun v hv x hx => ord_closed hv hx)
        have HOK := Lib.hid (show ∀ v ∈ Pv.ord low all, v.chk 0 9 5 = 0 from fun v hv => ord_chk herr hv)
        have HHAS := Lib.hid (show ∀ v ∈ low ++ all, v ∈ Pv.ord low all from fun v hv => ord_has hv)
        have HLOW := Lib.hid (show ∀ v ∈ low, Pv.num (Pv.ord low all) v ≤ 2 * low.length from fun v hv => low_le hv)
        have P4 := Lib.hid hp
        clear hp herr
        generalize Pv.ord low all = O at *
        have hrl : (Pv.raws O).length ≤ 1000000 := by
          have := raw1_len O (Pv.num O)
          unfold Pv.raws
          rw [List.length_cons]
          omega
        go_wp2_with fail
        refine (praw_any _ b m n u O w4 P4.out (by omega) HFO.out).mono ?_
        rintro e w5 ⟨u5, rfl, hr5, hb5⟩
        obtain ⟨A5, c5, rfl, hR5⟩ := hr5.reads
        have P5 := Lib.hid (P4.out.grow hb5)
        have R5 := Lib.hid hR5
        have K5 := Lib.hid (K4.out.trans (hb5.mono K4.out.size))
        clear hr5 hb5 hR5 K4 P4
        go_wp2_with fail
        refine (holds_any A5 c5 O w5 R5.out hrl HCL.out HOK.out).mono ?_
        rintro e w6 ⟨rfl, hb6⟩
        have P6 := Lib.hid (P5.out.grow hb6)
        have R6 := Lib.hid (R5.out.grow hb6)
        have K6 := Lib.hid (K5.out.trans (hb6.mono K5.out.size))
        have k7 := Lib.hid ((Below.refl w6.heap.size w6).alloc (Nat.le_refl _) (.cells #[] 25))
        have HS1 := Lib.hid ((HX.out.grow K6.out).src k7.out)
        have HS2 := Lib.hid (fun y (hy : Below w6.heap.size w6 y) => (HY.out.grow K6.out).src hy)
        clear hb6 P5 R5 K5
        go_wp2_with (at_builtin; first
          | (refine wpList_appV rfl _ _ rfl w6.heap.size _ [] rfl (vrow_of_block (heap_alloc_new _ _) (Nat.le_refl _) [] rfl rfl (by simp)) _ low rfl HS1.out (by simp; omega) (by simp) ?_; intro v1 x1 hr1 hp1; have hb1 := k7.out.trans (hp1.below (by simp) (fun k hk => by cases hk; simp)); have hbs1 := hb1.size)
          | (refine wpList_appV rfl _ _ rfl w6.heap.size _ ([] ++ low) rfl hr1 _ all rfl (HS2.out _ hb1) (by simp; omega) hbs1 ?_; intro v2 x2 hr2 hp2; have hb2 := hb1.trans (hp2.below hbs1 (fun k hk => hr1.base_le hk)); obtain ⟨A2, c2, e2, hVx, hAx⟩ := hr2.reads; subst e2; clear hAx))
        have HL := Lib.hid (show ([] ++ low ++ all).length = low.length + all.length by simp)
        have HV2 := Lib.hid hr2.vals
        have HM2 := Lib.hid (show ∀ (i : Nat) x, ([] ++ low ++ all)[i]? = some x → x ∈ low ++ all ∧ (i < low.length → x ∈ low) from fun i x h => by
          rw [List.nil_append] at h
          refine ⟨List.mem_of_getElem? h, fun hi => ?_⟩
          rw [List.getElem?_append_left hi] at h
          exact List.mem_of_getElem? h)
        have P7 := Lib.hid (P6.out.grow hb2)
        have R7 := Lib.hid (R6.out.grow hb2)
        have K7 := Lib.hid (K6.out.trans (hb2.mono K6.out.size))
        clear hr1 hp1 hb1 hbs1 hr2 hp2 hb2 HS1 HS2 P6 R6 K6 k7
        generalize [] ++ low ++ all = T at *
        have HE := Lib.hid (fun x z => (eq_val x x z).trans (by rw [decide_eq_true rfl]))
        go_loopw [42] (fun t wr => ∃ i : Nat, i ≤ low.length + all.length ∧ t = .int .i64 i ∧ Below x2.heap.size x2 wr) (fun t _ => (low.length + all.length) - (intOf t).toNat)
        case atStart => exact ⟨0, Nat.zero_le _, rfl, Below.refl _ _⟩
        case round =>
          obtain ⟨i, hil, rfl, hB⟩ := hrel
          have MB := Lib.hid hB
          clear hB
          by_cases hi : i < low.length + all.length
          · obtain ⟨g2, o2, x, rfl, hg2, hx2, c0, c1, c2', c3, c4, c5'⟩ := (HV2.out.grow MB.out).at_ (i := i) (by rw [HL.out]; exact hi)
            have p1 : decide ((i : Int) < ((low.length : Int) + (all.length : Int))) = true := decide_eq_true (by omega)
            have p2 : decide (i < low.length + all.length) = true := decide_eq_true hi
            obtain ⟨hmx, hml⟩ := HM2.out i x hx2
            have hmo := HHAS.out x hmx
            have hn1 := (raws_at hmo).1
            have HN2 := Lib.hid (fun h => HLOW.out x (hml h))
            have k1 := Lib.hid ((Below.refl wr.heap.size wr).alloc (Nat.le_refl _) (.cells #[.int .i64 x.tag, .string (bs x.text), .int .u64 x.bits, .string (bs x.cls), .string (bs x.name), .string (bs x.desc)] 25))
            have q1 := Lib.hid (vbox_new wr x)
            have HPN := Lib.hid (fun (y : World) (k : Below wr.heap.size wr y) => pnumber_any _ b m n u O x y (P7.out.grow (MB.out.trans (k.mono MB.out.size))) (HFT.out x hmx).k)
            have HVL := Lib.hid (fun (y : World) (k : Below wr.heap.size wr y) => value_any A5 c5 O x y (R7.out.grow (MB.out.trans (k.mono MB.out.size))) hrl HCL.out HOK.out hmo)
            have he := HE.out x
            unfold vv at HPN HVL he
            clear hx2 hmo hmx hml
            generalize Pv.num O x = k at *
            have p3 : decide ((k : Int) < 1) = false := decide_eq_false (by omega)
            go_wp2_with fail
            generalize wr.alloc (.cells #[.int .i64 x.tag, .string (bs x.text), .int .u64 x.bits, .string (bs x.cls), .string (bs x.name), .string (bs x.desc)] 25) = W1 at k1 q1 ⊢
            obtain ⟨e0, e1, e2, e3, e4, e5⟩ := q1.out.at_
            have hz1 := q1.out.lt
            go_wp2_with fail
            refine (HPN.out W1 k1.out).mono ?_
            rintro e y1 ⟨rfl, hb1⟩
            have k2 := Lib.hid (k1.out.trans (hb1.mono k1.out.size))
            have q2 := Lib.hid (q1.out.keep hb1 q1.out.lt)
            clear hb1 k1 q1 e0 e1 e2 e3 e4 e5 hz1 HPN c0 c1 c2' c3 c4 c5'
            go_wp2_with fail
            refine (HVL.out y1 k2.out).mono ?_
            rintro e y2 ⟨rfl, hb2⟩
            have k3 := Lib.hid (k2.out.trans (hb2.mono k2.out.size))
            have q3 := Lib.hid (q2.out.keep hb2 q2.out.lt)
            clear hb2 k2 q2 HVL
            have k4 := Lib.hid (k3.out.alloc k3.out.size (.cells #[.int .i64 x.tag, .string (bs x.text), .int .u64 x.bits, .string (bs x.cls), .string (bs x.name), .string (bs x.desc)] 25))
            obtain ⟨e0, e1, e2, e3, e4, e5⟩ := q3.out.at_
            have hz1 := q3.out.lt
            have NB := Lib.hid (MB.out.trans (k4.out.mono MB.out.size))
            by_cases hl : i < low.length
            · have p4 : decide ((i : Int) < (low.length : Int)) = true := decide_eq_true (by omega)
              have p5 : decide (i < low.length) = true := decide_eq_true hl
              have hn2 := HN2.out hl
              have p6 : decide (2 * (low.length : Int) < (k : Int)) = false := decide_eq_false (by omega)
              go_wp2_with fail
              go_roundw
              case rel => exact ⟨i + 1, by omega, by go_num, NB.out⟩
              case measure => simp [intOf]; omega
            · have p4 : decide ((i : Int) < (low.length : Int)) = false := decide_eq_false (by omega)
              have p5 : decide (i < low.length) = false := decide_eq_false hl
              go_wp2_with fail
              go_roundw
              case rel => exact ⟨i + 1, by omega, by go_num, NB.out⟩
              case measure => simp [intOf]; omega
          · obtain rfl : i = low.length + all.length := by omega
            have p1 : decide (((low.length : Int) + (all.length : Int)) < ((low.length : Int) + (all.length : Int))) = false := decide_eq_false (by omega)
            have p2 : decide (low.length + all.length < low.length + all.length) = false := decide_eq_false (by omega)
            go_wp2_with fail
            go_ret
            exact ⟨rfl, K7.out.trans (MB.out.mono K7.out.size)⟩
end Go.Proofs.Ytimheacdaafodaa
