/- The walk of layer 28's first law. -/
import Derived.Test.YtekcfjfkbiciaaaTabH
import Derived.Test.YtekcfjfkbiciaaaTabG
import Derived.Test.YtekcfjfkbiciaaaTabC
namespace Go.Proofs.Ytekcfjfkbiciaaa
open Go.RowKit Go.Maps

theorem few_len {l : List Pv} (h : Pv.few l = true) : l.length ≤ 60 := by
  unfold Pv.few at h
  simp only [Bool.and_eq_true, decide_eq_true_eq] at h
  exact h.2
set_option maxRecDepth 100000 in
set_option maxHeartbeats 8000000 in
theorem law_any (B : Option Addr) (d : Nat) (l : List Pv) (v : Pv) (tag j : Int) (w : World) (hy : Vals w B d l) (hA : B = none → d = 0) (hm : l.length ≤ 140737488355328) (hf : ∀ v ∈ l, v.fits) (hv : v.fits) :
    Calls Try.prog 3 #[.slice B l.length d, vv v, .int .i64 tag, .int .i64 j] w fun e w' => e = .returned (.bool true) ∧ Below w.heap.size w w' := by
  have HY := Lib.hid hy
  have HFT := Lib.hid hf
  have HAN := Lib.hid hA
  have HVF := Lib.hid hv
  have k0 := Lib.hid ((Below.refl w.heap.size w).alloc (Nat.le_refl _) (.cells #[.int .i64 v.tag, .string (bs v.text), .int .u64 v.bits, .string (bs v.cls), .string (bs v.name), .string (bs v.desc)] 25))
  have q0 := Lib.hid (vbox_new w v)
  have HFX := Lib.hid fixed_any
  have HF2 := Lib.hid (fun w h => few_any B d l w h hm hf)
  clear hy hf hA hv
  unfold vv
  go_enter Try.func3, Try.ntmps3
  go_wp2_with fail
  generalize w.alloc (.cells #[.int .i64 v.tag, .string (bs v.text), .int .u64 v.bits, .string (bs v.cls), .string (bs v.name), .string (bs v.desc)] 25) = W at k0 q0 ⊢
  refine (HFX.out W).mono ?_
  rintro e w1 ⟨rfl, hb1⟩
  have K1 := Lib.hid (k0.out.trans (hb1.mono k0.out.size))
  have q1 := Lib.hid (q0.out.keep hb1 q0.out.lt)
  clear hb1 k0 q0 HFX
  go_wp2_with fail
  refine (HF2.out w1 (HY.out.grow K1.out)).mono ?_
  rintro e w2 ⟨rfl, hb2⟩
  have K2 := Lib.hid (K1.out.trans (hb2.mono K1.out.size))
  have q2 := Lib.hid (q1.out.keep hb2 q1.out.lt)
  clear hb2 K1 q1 HF2
  cases f1 : Pv.few l with
  | false =>
    go_wp2_with fail
    go_ret
    exact ⟨rfl, K2.out⟩
  | true =>
    have L1 := few_len f1
    clear f1
    go_wp2_with fail
    refine (of_any B d l w2 (HY.out.grow K2.out) (by omega) HAN.out HFT.out).mono ?_
    rintro e w3 ⟨hof, hb3⟩
    have K3 := Lib.hid (K2.out.trans (hb3.mono K2.out.size))
    have q3 := Lib.hid (q2.out.keep hb3 q2.out.lt)
    have HCL := Lib.hid (closed_any B d l w3 (HY.out.grow K3.out) (by omega) HFT.out)
    clear hb3 K2 q2
    rcases hof with ⟨herr, rfl⟩ | ⟨herr, b, m, n, us, rfl, hT⟩
    · have HE0 := Lib.hid herr
      clear herr
      go_wp2_with fail
      refine HCL.out.mono ?_
      rintro e w4 ⟨⟨_, rfl⟩ | ⟨h, _⟩, hb4⟩
      · have K4 := Lib.hid (K3.out.trans (hb4.mono K3.out.size))
        have he : (Pv.errOf l != 0) = true := by simpa using HE0.out
        clear hb4 K3 HCL
        generalize Pv.errOf l = er at *
        go_wp2_with fail
        have HAT := Lib.hid (at_nil 1 0 w4)
        unfold vv at HAT
        dsimp only [Pv.zero] at HAT
        refine HAT.out.mono ?_
        rintro e w5 ⟨rfl, hb5⟩
        have K5 := Lib.hid (K4.out.trans (hb5.mono K4.out.size))
        clear hb5 K4 HAT
        go_wp2_with fail
        refine (len_nil 1 _).mono ?_
        rintro e w6 ⟨rfl, rfl⟩
        go_wp2_with fail
        go_ret
        exact ⟨rfl, K5.out.alloc K5.out.size _⟩
      · exact absurd h HE0.out
    · have HE0 := Lib.hid herr
      have HOK := Lib.hid (show ∀ v ∈ Pv.ord [] l, v.chk 0 9 5 = 0 from fun v hv => Pv.chk_cl (Pv.errOf_zero herr) ((Pv.ord_mem [] l v).1 hv))
      have HOF := Lib.hid (show ∀ v ∈ Pv.ord [] l, v.fits from fun v hv => Pv.fits_cl HFT.out ((Pv.ord_mem [] l v).1 hv))
      have HND := Lib.hid (Pv.ord_nodup [] l)
      have hol := ord_len [] l
      rw [List.length_nil] at hol
      have T3 := Lib.hid hT
      clear herr hT
      go_wp2_with fail
      refine HCL.out.mono ?_
      rintro e w4 ⟨⟨h, _⟩ | ⟨_, u, rfl, hr⟩, hb4⟩
      · exact absurd HE0.out h
      have K4 := Lib.hid (K3.out.trans (hb4.mono K3.out.size))
      have q4 := Lib.hid (q3.out.keep hb4 q3.out.lt)
      have T4 := Lib.hid (T3.out.grow hb4)
      obtain ⟨A, c, rfl, hV, hAx⟩ := hr.reads
      have HV := Lib.hid hV
      clear hr hV hAx hb4 K3 q3 T3 HCL
      generalize Pv.ord [] l = O at *
      go_wp2_with fail
      go_loopw [15, 16, 63] (fun a s t wr => ∃ i : Nat, i ≤ O.length ∧ t = .int .i64 i ∧ a = .bool (decide (v ∈ O.take i)) ∧ s = .int .i64 ((Pv.row (O.take i) tag).length : Nat) ∧ Below w4.heap.size w4 wr) (fun _ _ t _ => O.length - (intOf t).toNat)
      case atStart => exact ⟨0, Nat.zero_le _, rfl, by simp, by simp [Pv.row], Below.refl _ _⟩
      case round =>
        obtain ⟨i, hil, rfl, rfl, rfl, hB⟩ := hrel
        have MB := Lib.hid hB
        clear hB
        by_cases hi : i < O.length
        · obtain ⟨g, o, x, rfl, hg, hxv, c0, c1, c2, c3, c4, c5⟩ := (HV.out.grow MB.out).at_ hi
          have p1 : decide ((i : Int) < (O.length : Int)) = true := decide_eq_true (by omega)
          have p2 : decide (i < O.length) = true := decide_eq_true hi
          have HXV := Lib.hid hxv
          have HMM := Lib.hid (show ∀ u, u ∈ O.take (i + 1) ↔ u ∈ O.take i ∨ u = x from fun u => by
            obtain ⟨h1, rfl⟩ := List.getElem?_eq_some_iff.1 hxv
            rw [List.take_succ_eq_append_getElem h1, List.mem_append, List.mem_singleton])
          have k1 := Lib.hid ((Below.refl wr.heap.size wr).alloc (Nat.le_refl _) (.cells #[.int .i64 x.tag, .string (bs x.text), .int .u64 x.bits, .string (bs x.cls), .string (bs x.name), .string (bs x.desc)] 25))
          have NB := Lib.hid (MB.out.trans (k1.out.mono MB.out.size))
          have qv := Lib.hid (q4.out.keep MB.out q4.out.lt)
          obtain ⟨d0, d1, d2, d3, d4, d5⟩ := qv.out.at_
          have hz := qv.out.lt
          have HE := Lib.hid (fun a b x => eq_val a b x)
          unfold vv at HE
          have hrb := row_len (O.take i) tag
          rw [List.length_take] at hrb
          clear hxv
          by_cases hin : v ∈ O.take i
          · have HIN := Lib.hid (show decide (v ∈ O.take (i + 1)) = true from decide_eq_true ((HMM.out v).2 (.inl hin)))
            rw [decide_eq_true hin]
            clear hin
            by_cases ht : x.tag = tag
            · have pt : (x.tag == tag) = true := by simpa using ht
              have HR := Lib.hid (show ((Pv.row (O.take i) tag).length : Int) + 1 = ((Pv.row (O.take (i + 1)) tag).length : Nat) from by rw [row_snoc HXV.out, if_pos ht]; simp)
              clear ht
              go_wp2_with fail
              go_roundw
              case rel => exact ⟨i + 1, by omega, by go_num, by rw [HIN.out], by rw [← HR.out], NB.out⟩
              case measure => simp [intOf]; omega
            · have pt : (x.tag == tag) = false := by simpa using ht
              have HR := Lib.hid (show (Pv.row (O.take i) tag).length = (Pv.row (O.take (i + 1)) tag).length from by rw [row_snoc HXV.out, if_neg ht]; simp)
              clear ht
              go_wp2_with fail
              go_roundw
              case rel => exact ⟨i + 1, by omega, by go_num, by rw [HIN.out], by rw [← HR.out], NB.out⟩
              case measure => simp [intOf]; omega
          · rw [decide_eq_false hin]
            by_cases hxv : x = v
            · have HIN := Lib.hid (show decide (v ∈ O.take (i + 1)) = true from decide_eq_true ((HMM.out v).2 (.inr hxv.symm)))
              have he := fun z => (HE.out x v z).trans (by rw [decide_eq_true hxv])
              clear hin hxv
              by_cases ht : x.tag = tag
              · have pt : (x.tag == tag) = true := by simpa using ht
                have HR := Lib.hid (show ((Pv.row (O.take i) tag).length : Int) + 1 = ((Pv.row (O.take (i + 1)) tag).length : Nat) from by rw [row_snoc HXV.out, if_pos ht]; simp)
                clear ht
                go_wp2_with fail
                go_roundw
                case rel => exact ⟨i + 1, by omega, by go_num, by rw [HIN.out], by rw [← HR.out], NB.out⟩
                case measure => simp [intOf]; omega
              · have pt : (x.tag == tag) = false := by simpa using ht
                have HR := Lib.hid (show (Pv.row (O.take i) tag).length = (Pv.row (O.take (i + 1)) tag).length from by rw [row_snoc HXV.out, if_neg ht]; simp)
                clear ht
                go_wp2_with fail
                go_roundw
                case rel => exact ⟨i + 1, by omega, by go_num, by rw [HIN.out], by rw [← HR.out], NB.out⟩
                case measure => simp [intOf]; omega
            · have HIN := Lib.hid (show decide (v ∈ O.take (i + 1)) = false from decide_eq_false fun h => ((HMM.out v).1 h).elim hin (fun h => hxv h.symm))
              have he := fun z => (HE.out x v z).trans (by rw [decide_eq_false hxv])
              clear hin hxv
              by_cases ht : x.tag = tag
              · have pt : (x.tag == tag) = true := by simpa using ht
                have HR := Lib.hid (show ((Pv.row (O.take i) tag).length : Int) + 1 = ((Pv.row (O.take (i + 1)) tag).length : Nat) from by rw [row_snoc HXV.out, if_pos ht]; simp)
                clear ht
                go_wp2_with fail
                go_roundw
                case rel => exact ⟨i + 1, by omega, by go_num, by rw [HIN.out], by rw [← HR.out], NB.out⟩
                case measure => simp [intOf]; omega
              · have pt : (x.tag == tag) = false := by simpa using ht
                have HR := Lib.hid (show (Pv.row (O.take i) tag).length = (Pv.row (O.take (i + 1)) tag).length from by rw [row_snoc HXV.out, if_neg ht]; simp)
                clear ht
                go_wp2_with fail
                go_roundw
                case rel => exact ⟨i + 1, by omega, by go_num, by rw [HIN.out], by rw [← HR.out], NB.out⟩
                case measure => simp [intOf]; omega
        · obtain rfl : i = O.length := by omega
          have p1 : decide ((O.length : Int) < (O.length : Int)) = false := decide_eq_false (by omega)
          have p2 : decide (O.length < O.length) = false := decide_eq_false (by omega)
          rw [List.take_length]
          have q5 := Lib.hid (q4.out.keep MB.out q4.out.lt)
          obtain ⟨d0, d1, d2, d3, d4, d5⟩ := q5.out.at_
          have hz := q5.out.lt
          have HN := Lib.hid (tnumber_any _ b m n us O v wr (T4.out.grow MB.out) HVF.out.k)
          unfold vv at HN
          generalize Pv.nums O O.length v = nv at HN
          generalize decide (v ∈ O) = iv at HN ⊢
          go_wp2_with fail
          refine HN.out.mono ?_
          rintro e w6 ⟨rfl, hb6⟩
          have M6 := Lib.hid (MB.out.trans (hb6.mono MB.out.size))
          clear hb6 HN MB q5 d0 d1 d2 d3 d4 d5 hz q4
          have HA1 := Lib.hid (fun (k : Nat) (z : Pv) hz => at_in _ b m n us O tag k z w6 (T4.out.grow M6.out) HOK.out hz)
          have HA2 := Lib.hid (fun hz => at_out _ b m n us O tag j w6 (T4.out.grow M6.out) HOK.out hz)
          have g0 : (iv == iv) = true := by simp
          generalize hL : Pv.row O tag = L at HA1 HA2 ⊢
          clear hL
          by_cases hj0 : 0 ≤ j
          · obtain ⟨k, rfl⟩ := Int.eq_ofNat_of_zero_le hj0
            by_cases hj1 : k < L.length
            · have r1 : decide (0 ≤ (k : Int)) = true := decide_eq_true hj0
              have r2 : decide ((k : Int) < (L.length : Int)) = true := decide_eq_true (by omega)
              have r3 : decide (k < L.length) = true := decide_eq_true hj1
              obtain ⟨z, hz⟩ : ∃ z, z = L[k] := ⟨_, rfl⟩
              have HAT := Lib.hid (HA1.out k z (by rw [hz, List.getElem?_eq_getElem hj1]))
              clear HA1 HA2 hz
              unfold vv at HAT

              go_wp2_with fail
              refine HAT.out.mono ?_
              rintro e w7 ⟨rfl, hb7⟩
              have M7 := Lib.hid (M6.out.trans (hb7.mono M6.out.size))
              clear hb7 HAT M6
              have k7 := Lib.hid ((Below.refl w7.heap.size w7).alloc (Nat.le_refl _) (.cells #[.int .i64 z.tag, .string (bs z.text), .int .u64 z.bits, .string (bs z.cls), .string (bs z.name), .string (bs z.desc)] 25))
              have M8 := Lib.hid (M7.out.trans (k7.out.mono M7.out.size))
              have HTL := Lib.hid (tells_any _ b m n us O A c _ (T4.out.grow M8.out) (HV.out.grow M8.out) HOK.out HOF.out HND.out (by omega))
              go_wp2_with fail
              refine HTL.out.mono ?_
              rintro e w9 ⟨rfl, hb9⟩
              have M9 := Lib.hid (M8.out.trans (hb9.mono M8.out.size))
              have K9 := Lib.hid (K4.out.trans (M9.out.mono K4.out.size))
              clear hb9 HTL M8 M7 k7
              go_wp2_with fail
              go_ret
              exact ⟨rfl, K9.out⟩
            · have r1 : decide (0 ≤ (k : Int)) = true := decide_eq_true hj0
              have r2 : decide ((k : Int) < (L.length : Int)) = false := decide_eq_false (by omega)
              have r3 : decide (k < L.length) = false := decide_eq_false hj1
              have HAT := Lib.hid (HA2.out (.inr (by omega)))
              clear HA1 HA2
              obtain ⟨z, hz⟩ : ∃ z : Pv, z = Pv.zero := ⟨_, rfl⟩
              rw [← hz] at HAT
              clear hz
              unfold vv at HAT

              go_wp2_with fail
              refine HAT.out.mono ?_
              rintro e w7 ⟨rfl, hb7⟩
              have M7 := Lib.hid (M6.out.trans (hb7.mono M6.out.size))
              clear hb7 HAT M6
              have k7 := Lib.hid ((Below.refl w7.heap.size w7).alloc (Nat.le_refl _) (.cells #[.int .i64 z.tag, .string (bs z.text), .int .u64 z.bits, .string (bs z.cls), .string (bs z.name), .string (bs z.desc)] 25))
              have M8 := Lib.hid (M7.out.trans (k7.out.mono M7.out.size))
              have HTL := Lib.hid (tells_any _ b m n us O A c _ (T4.out.grow M8.out) (HV.out.grow M8.out) HOK.out HOF.out HND.out (by omega))
              go_wp2_with fail
              refine HTL.out.mono ?_
              rintro e w9 ⟨rfl, hb9⟩
              have M9 := Lib.hid (M8.out.trans (hb9.mono M8.out.size))
              have K9 := Lib.hid (K4.out.trans (M9.out.mono K4.out.size))
              clear hb9 HTL M8 M7 k7
              go_wp2_with fail
              go_ret
              exact ⟨rfl, K9.out⟩
          · have r1 : decide (0 ≤ j) = false := decide_eq_false hj0
            have r2 : decide (j < 0) = true := decide_eq_true (by omega)
            have HAT := Lib.hid (HA2.out (.inl (by omega)))
            clear HA1 HA2
            obtain ⟨z, hz⟩ : ∃ z : Pv, z = Pv.zero := ⟨_, rfl⟩
            rw [← hz] at HAT
            clear hz
            unfold vv at HAT

            go_wp2_with fail
            refine HAT.out.mono ?_
            rintro e w7 ⟨rfl, hb7⟩
            have M7 := Lib.hid (M6.out.trans (hb7.mono M6.out.size))
            clear hb7 HAT M6
            have k7 := Lib.hid ((Below.refl w7.heap.size w7).alloc (Nat.le_refl _) (.cells #[.int .i64 z.tag, .string (bs z.text), .int .u64 z.bits, .string (bs z.cls), .string (bs z.name), .string (bs z.desc)] 25))
            have M8 := Lib.hid (M7.out.trans (k7.out.mono M7.out.size))
            have HTL := Lib.hid (tells_any _ b m n us O A c _ (T4.out.grow M8.out) (HV.out.grow M8.out) HOK.out HOF.out HND.out (by omega))
            go_wp2_with fail
            refine HTL.out.mono ?_
            rintro e w9 ⟨rfl, hb9⟩
            have M9 := Lib.hid (M8.out.trans (hb9.mono M8.out.size))
            have K9 := Lib.hid (K4.out.trans (M9.out.mono K4.out.size))
            clear hb9 HTL M8 M7 k7
            go_wp2_with fail
            go_ret
            exact ⟨rfl, K9.out⟩
end Go.Proofs.Ytekcfjfkbiciaaa
