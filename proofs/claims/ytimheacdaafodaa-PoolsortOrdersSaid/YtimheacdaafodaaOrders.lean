/- The walk of layer 19's first law. -/
import Derived.Test.YtimheacdaafodaaFixed
import Derived.Test.YtimheacdaafodaaLaw
import Derived.Deep.RegionLaw
namespace Go.Proofs.Ytimheacdaafodaa
open Go.RowKit Go.Maps

/-- The rest of a row, as it is cut. -/
theorem VRow.rest {w : World} {base g n c : Nat} {x : Pv} {xs : List Pv} (h : VRow w base (.slice (some ⟨g, 0, none⟩) n c) (x :: xs)) :
    VOff w base (.slice (some (if c = 1 then ⟨g, 0, none⟩ else ⟨g, 0 + 6, none⟩)) xs.length (c - 1)) xs := by
  obtain ⟨g', o', c', e, _, _, _, _, h2⟩ := (VOff.of h).next
  cases e
  exact h2
theorem VOff.src {w : World} {base : Nat} {A : Option Addr} {c : Nat} {xs : List Pv} (h : VOff w base (.slice A xs.length c) xs) {y : World} (k : Below w.heap.size w y) : Src Try.prog 6 22 (.slice A xs.length c) xs.length (vc xs) y := by
  obtain ⟨A', c', e, hV⟩ := h.reads
  cases e
  exact hV.src k
theorem raws_small {O : List Pv} (h : O.length ≤ 1000) : (Pv.raws O).length ≤ 140737488355328 := by
  have := raw1_len O (Pv.num O)
  unfold Pv.raws
  rw [List.length_cons]
  omega
set_option maxHeartbeats 8000000 in
set_option maxRecDepth 100000 in
theorem orders_any (A B : Option Addr) (c d : Nat) (low all : List Pv) (v : Pv) (w : World) (hx : Vals w A c low) (hy : Vals w B d all) (hA : A = none → c = 0) (hn : low.length ≤ 140737488355328) (hm : all.length ≤ 140737488355328) (hf : ∀ v ∈ low ++ all, v.fits) (hv : v.fits) :
    Calls Try.prog 3 #[.slice A low.length c, .slice B all.length d, vv v] w fun e w' => e = .returned (.bool true) ∧ Below w.heap.size w w' := by
  have HX := Lib.hid hx
  have HY := Lib.hid hy
  have HFT := Lib.hid hf
  have HAN := Lib.hid hA
  have HVF := Lib.hid hv
  have k0 := Lib.hid ((Below.refl w.heap.size w).alloc (Nat.le_refl _) (.cells #[.int .i64 v.tag, .string (bs v.text), .int .u64 v.bits, .string (bs v.cls), .string (bs v.name), .string (bs v.desc)] 25))
  have q0 := Lib.hid (vbox_new w v)
  have HFX := Lib.hid fixed_any
  have HF1 := Lib.hid (fun w h => few_any A c low w h hn (fun x hx => hf x (List.mem_append_left _ hx)))
  have HF2 := Lib.hid (fun w h => few_any B d all w h hm (fun x hx => hf x (List.mem_append_right _ hx)))
  clear hx hy hf hA hv
  unfold vv
  go_enter Try.func3, Try.ntmps3
  go_wp2_with fail
  generalize w.alloc (.cells #[.int .i64 v.tag, .string (bs v.text), .int .u64 v.bits, .string (bs v.cls), .string (bs v.name), .string (bs v.desc)] 25) = W at k0 q0 ⊢
  refine (HFX.out W).mono ?_
  rintro e w1 ⟨rfl, hb1⟩
  have K1 := Lib.hid (k0.out.trans (hb1.mono k0.out.size))
  have q1 := Lib.hid (q0.out.keep hb1 q0.out.lt)
  clear hb1 k0 q0 HFX
  go_wp2_with fail
  refine (HF1.out w1 (HX.out.grow K1.out)).mono ?_
  rintro e w2 ⟨rfl, hb2⟩
  have K2 := Lib.hid (K1.out.trans (hb2.mono K1.out.size))
  have q2 := Lib.hid (q1.out.keep hb2 q1.out.lt)
  clear hb2 K1 q1 HF1
  cases f1 : Pv.few low with
  | false =>
    go_wp2_with fail
    go_ret
    exact ⟨rfl, K2.out⟩
  | true =>
    have L1 := few_len f1
    clear f1
    go_wp2_with fail
    refine (HF2.out w2 (HY.out.grow K2.out)).mono ?_
    rintro e w3 ⟨rfl, hb3⟩
    have K3 := Lib.hid (K2.out.trans (hb3.mono K2.out.size))
    have q3 := Lib.hid (q2.out.keep hb3 q2.out.lt)
    clear hb3 K2 q2 HF2
    cases f2 : Pv.few all with
    | false =>
      go_wp2_with fail
      go_ret
      exact ⟨rfl, K3.out⟩
    | true =>
      have L2 := few_len f2
      clear f2
      go_wp2_with fail
      refine (new_any A B c d low all w3 (HX.out.grow K3.out) (HY.out.grow K3.out) HAN.out (by omega) (by omega) HFT.out).mono ?_
      rintro e w4 ⟨hnew, hb4⟩
      have K4 := Lib.hid (K3.out.trans (hb4.mono K3.out.size))
      have q4 := Lib.hid (q3.out.keep hb4 q3.out.lt)
      have hor := Lib.hid (fun w h1 h2 => order_any A B c d low all w h1 h2 (by omega) (by omega))
      clear hb4 K3 q3 HAN
      rcases hnew with ⟨herr, rfl⟩ | ⟨herr, b, u, m, n, rfl, hp⟩
      · go_wp2_with fail
        refine (hor.out w4 (HX.out.grow K4.out) (HY.out.grow K4.out)).mono ?_
        rintro e w5 ⟨u5, l5, rfl, hr5, _, hb5⟩
        have K5 := Lib.hid (K4.out.trans (hb5.mono K4.out.size))
        have q5 := Lib.hid (q4.out.keep hb5 q4.out.lt)
        have hpn := Lib.hid (fun w => pnumber_nil v w)
        unfold vv at hpn
        generalize Pv.errOf (low ++ all) = er at *
        have he : (er == 0) = false := by simpa using herr
        obtain ⟨d0, d1, d2, d3, d4, d5⟩ := q5.out.at_
        have hz := q5.out.lt
        clear hb5 K4 q4 hor
        go_wp2_with fail
        refine (hpn.out w5).mono ?_
        rintro e w6 ⟨rfl, hb6⟩
        have K6 := Lib.hid (K5.out.trans (hb6.mono K5.out.size))
        clear hb6 K5 hpn d0 d1 d2 d3 d4 d5 hz q5
        go_wp2_with fail
        refine (praw_nil w6).mono ?_
        rintro e w7 ⟨rfl, rfl⟩
        go_wp2_with fail
        go_ret
        exact ⟨rfl, K6.out⟩
      · go_wp2_with fail
        refine (hor.out w4 (HX.out.grow K4.out) (HY.out.grow K4.out)).mono ?_
        rintro e w5 ⟨u5, l5, rfl, hr5, hl5, hb5⟩
        obtain rfl : l5 = Pv.slots (Pv.ord low all) := by
          rcases hl5 with ⟨_, h⟩ | ⟨h, _⟩
          · exact h
          · exact absurd herr h
        rw [herr]
        have K5 := Lib.hid (K4.out.trans (hb5.mono K4.out.size))
        have q5 := Lib.hid (q4.out.keep hb5 q4.out.lt)
        have P5 := Lib.hid (hp.grow hb5)
        have R5 := Lib.hid hr5
        have hol := ord_len low all
        have hsl := slots_len_le (Pv.ord low all)
        have HRS := Lib.hid (raws_same herr)
        have HNM := Lib.hid (fun x => Pv.refNum_slots (Pv.ord low all) x)
        have HFO := Lib.hid (fun x (hx : x ∈ Pv.ord low all) => Pv.fits_cl HFT.out ((Pv.ord_mem low all x).1 hx))
        obtain ⟨T, hT⟩ : ∃ T, Pv.slots (Pv.ord low all) = Pv.zero :: T := ⟨_, rfl⟩
        have HTF := Lib.hid (show ∀ x ∈ T, x.fits from fun x hx => by
          have h : x ∈ Pv.slots (Pv.ord low all) := hT ▸ List.mem_cons_of_mem _ hx
          unfold Pv.slots at h hT
          cases hT
          obtain ⟨z, hz, hx2⟩ := List.mem_flatMap.1 hx
          have : x = z := by
            unfold Pv.slot at hx2
            split at hx2 <;> simpa using hx2
          exact this ▸ HFO.out z hz)
        have HT := Lib.hid hT
        clear hb5 K4 q4 hor hp hr5 hl5 herr
        generalize Pv.ord low all = O at *
        generalize Pv.slots O = S at *
        have hTl : S.length = T.length + 1 := by rw [hT]; rfl
        clear hT
        obtain ⟨S5, c5, rfl, hV5, hS5⟩ := R5.out.reads
        have HV5 := Lib.hid hV5
        obtain ⟨g, o, z0, rfl, hg, hz0⟩ := hV5.at_ (i := 0) (by omega)
        obtain rfl : o = 0 := (hS5 g o rfl).2
        have hRT := R5.out
        rw [HT.out] at hRT
        have HRT := Lib.hid (VRow.rest hRT)
        have hc5 : S.length ≤ c5 := hV5.1
        obtain ⟨d0, d1, d2, d3, d4, d5⟩ := q5.out.at_
        have hz := q5.out.lt
        clear hV5 hS5 hRT
        go_wp2_with fail
        have pI : (1 : Int) ≤ (T.length : Int) + 1 := by omega
        have HS2 := Lib.hid (fun y (hy : Below w5.heap.size w5 y) => (HY.out.grow K5.out).src hy)
        clear HV5 hz0
        by_cases hc : c5 = 1
        · subst hc
          obtain rfl : T = [] := List.eq_nil_of_length_eq_zero (by omega)
          have HRU := HRT.out
          rw [if_pos rfl] at HRU
          have HS1 := Lib.hid (fun y (hy : Below w5.heap.size w5 y) => VOff.src HRU hy)
          clear HRU HRT
          go_region_law ((first
            | (refine step_appV rfl _ _ rfl w5.heap.size _ [v] rfl (vrow_of_block (by (first | exact heap_alloc2_new _ _ _ | exact heap_alloc2_old _ _ _ | exact heap_alloc_new _ _)) (by (first | omega | (simp; done) | (simp; omega))) [v] rfl rfl (by simp)) _ [] rfl (by refine HS1.out _ ?_; (repeat (first | exact Below.refl _ _ | exact hb1 | refine Below.drew ?_ | refine Below.alloc ?_ ?_ _)); (all_goals (first | omega | (simp; done) | (simp; omega)))) (by simp; try omega) (by (first | omega | (simp; done) | (simp; omega))) ?_; intro v1 x1 hr1 hp1; have hb1 : Below w5.heap.size w5 x1 := Below.trans (by (repeat (first | exact Below.refl _ _ | exact hb1 | refine Below.drew ?_ | refine Below.alloc ?_ ?_ _)); (all_goals (first | omega | (simp; done) | (simp; omega)))) (hp1.below (by (first | omega | (simp; done) | (simp; omega))) (fun k hk => by cases hk; (first | omega | (simp; done) | (simp; omega)))); have hbs1 := hb1.size)
            | (refine step_appV rfl _ _ rfl w5.heap.size _ ([v] ++ []) rfl (by first | exact hr1 | (refine hr1.grow ?_; (repeat (first | exact Below.refl _ _ | exact hb1 | refine Below.drew ?_ | refine Below.alloc ?_ ?_ _)); (all_goals (first | omega | (simp; done) | (simp; omega))))) _ all rfl (by refine HS2.out _ ?_; (repeat (first | exact Below.refl _ _ | exact hb1 | refine Below.drew ?_ | refine Below.alloc ?_ ?_ _)); (all_goals (first | omega | (simp; done) | (simp; omega)))) (by simp; try omega) (by (first | omega | (simp; done) | (simp; omega))) ?_; intro v2 x2 hr2 hp2; have hb2 : Below w5.heap.size w5 x2 := Below.trans (by (repeat (first | exact Below.refl _ _ | exact hb1 | refine Below.drew ?_ | refine Below.alloc ?_ ?_ _)); (all_goals (first | omega | (simp; done) | (simp; omega)))) (hp2.below (by (first | omega | (simp; done) | (simp; omega))) (fun k hk => hr1.base_le hk)); obtain ⟨A2, c2, e2, hVx, hAx⟩ := hr2.reads; subst e2; clear hVx hAx)))
          have HTS := Lib.hid (show S.length = 1 from hTl)
          have R2 := Lib.hid hr2
          have HB2 := Lib.hid hb2
          have HV2 := Lib.hid hr2.vals
          have HL := Lib.hid (show ([v] ++ [] ++ all).length = all.length + 1 by simp; try omega)
          have P2 := Lib.hid (P5.out.grow hb2)
          have K2 := Lib.hid (K5.out.trans (hb2.mono K5.out.size))
          have V5 := Lib.hid (VRow.vals R5.out)
          have HF2 := Lib.hid (show ∀ x ∈ [v] ++ [] ++ all, x.fits from fun x hx => by
              rcases List.mem_append.1 hx with h | h
              · rcases List.mem_append.1 h with h | h
                · rw [List.mem_singleton.1 h]; exact HVF.out
                · first | exact HTF.out x h | cases h
              · exact HFT.out x (List.mem_append_right _ h))
          clear hr1 hp1 hb1 hbs1 hr2 hp2 hb2 d0 d1 d2 d3 d4 d5 hz HS1 HS2 pI q5 P5
          go_simp
          go_wp2_with fail
          go_loopw [69] (fun t wr => ∃ i : Nat, i ≤ all.length + 1 ∧ t = .int .i64 i ∧ Below x2.heap.size x2 wr) (fun t _ => all.length + 1 - (intOf t).toNat)
          case atStart => exact ⟨0, Nat.zero_le _, rfl, Below.refl _ _⟩
          case round =>
            obtain ⟨i, hil, rfl, hB⟩ := hrel
            have MB := Lib.hid hB
            clear hB
            by_cases hi : i < all.length + 1
            · obtain ⟨g2, o2, x, rfl, hg2, hx2, c0, c1, c2', c3, c4, c5'⟩ := (HV2.out.grow MB.out).at_ (i := i) (by rw [HL.out]; exact hi)
              have p1 : decide ((i : Int) < (all.length : Int) + 1) = true := decide_eq_true (by omega)
              have p2 : decide (i < all.length + 1) = true := decide_eq_true hi
              have HFX := Lib.hid (HF2.out x (List.mem_of_getElem? hx2))
              have k1 := Lib.hid ((Below.refl wr.heap.size wr).alloc (Nat.le_refl _) (.cells #[.int .i64 x.tag, .string (bs x.text), .int .u64 x.bits, .string (bs x.cls), .string (bs x.name), .string (bs x.desc)] 25))
              have q1 := Lib.hid (vbox_new wr x)
              have HPN := Lib.hid (fun (y : World) (k : Below wr.heap.size wr y) => pnumber_any _ b m n u O x y (P2.out.grow (MB.out.trans (k.mono MB.out.size))) HFX.out.k)
              have hrn := fun (y : World) (k : Below wr.heap.size wr y) => rnumber_any (some ⟨g, 0, none⟩) 1 S x y (V5.out.grow (HB2.out.trans ((MB.out.trans (k.mono MB.out.size)).mono HB2.out.size))) (by omega)
              have hnm := HNM.out x
              simp only [hnm, HTS.out] at hrn
              have HRN := Lib.hid hrn
              unfold vv at HPN HRN
              clear hx2 hrn hnm
              go_wp2_with fail
              generalize wr.alloc (.cells #[.int .i64 x.tag, .string (bs x.text), .int .u64 x.bits, .string (bs x.cls), .string (bs x.name), .string (bs x.desc)] 25) = W1 at k1 q1 ⊢
              obtain ⟨e0, e1, e2, e3, e4, e5⟩ := q1.out.at_
              have hz1 := q1.out.lt
              have HPG := Lib.hid (fun g : Gr W1 => HPN.out g.1 (k1.out.trans (g.2.mono k1.out.size)))
              have HRG := Lib.hid (fun g : Gr W1 => HRN.out g.1 (k1.out.trans (g.2.mono k1.out.size)))
              clear HPN HRN
              refine wp_region_grow (by kernel_rfl) (by kernel_rfl) ?_
              repeat (go_big_quiet_step ((first | (go_at_call 10; exact Gr.call (HPG.out _)) | (go_at_call 12; exact Gr.call (HRG.out _)))))
              refine wpQuiet_nil ?_
              intro g1
              obtain ⟨w1, hb1⟩ := g1
              have NB := Lib.hid (MB.out.trans ((k1.out.trans (hb1.mono k1.out.size)).mono MB.out.size))
              dsimp only
              clear hb1 HPG HRG k1 q1
              go_wp2
              go_roundw
              case rel => exact ⟨i + 1, by omega, by go_num, NB.out⟩
              case measure => simp [intOf]; omega
            · obtain rfl : i = all.length + 1 := by omega
              have p1 : decide ((all.length + 1 : Nat) < all.length + 1) = false := decide_eq_false (by omega)
              have p2 : decide (((all.length : Int) + 1) < ((all.length : Int) + 1)) = false := decide_eq_false (by omega)
              have B3 := Lib.hid (HB2.out.trans (MB.out.mono HB2.out.size))
              have K6 := Lib.hid (K2.out.trans (MB.out.mono K2.out.size))
              have P6 := Lib.hid (P2.out.grow MB.out)
              have V6 := Lib.hid (V5.out.grow B3.out)
              have hrr0 := fun w h => rraw_any (some ⟨g, 0, none⟩) 1 S w h (by omega)
              rw [HTS.out] at hrr0
              have hrr := Lib.hid hrr0
              clear hrr0
              clear P2 V5 MB B3
              go_wp2_with fail
              refine (praw_any _ b m n u O wr P6.out (by omega) HFO.out).mono ?_
              rintro e w7 ⟨u7, rfl, hr7, hb7⟩
              have V7 := Lib.hid (V6.out.grow hb7)
              have K7 := Lib.hid (K6.out.trans (hb7.mono K6.out.size))
              obtain ⟨A7, c7, rfl, hR7⟩ := hr7.reads
              have R7 := Lib.hid hR7
              clear hr7 hb7 hR7
              go_wp2_with fail
              refine (hrr.out w7 V7.out).mono ?_
              rintro e w8 ⟨u8, rfl, hr8, hb8⟩
              have R8 := Lib.hid (R7.out.grow hb8)
              have K8 := Lib.hid (K7.out.trans (hb8.mono K7.out.size))
              rw [HRS.out] at hr8
              obtain ⟨A8, c8, rfl, hR8⟩ := hr8.reads
              have R9 := Lib.hid hR8
              clear hr8 hb8 hR8
              go_wp2_with fail
              refine (same_any A7 A8 c7 c8 (Pv.raws O) (Pv.raws O) w8 R8.out R9.out (raws_small (by omega)) (raws_small (by omega))).mono ?_
              rintro e w9 ⟨rfl, hb9⟩
              rw [decide_eq_true rfl]
              have K9 := Lib.hid (K8.out.trans (hb9.mono K8.out.size))
              clear hb9
              go_wp2_with fail
              go_ret
              exact ⟨rfl, K9.out⟩
        · have hc' : ¬ 1 = c5 := fun h => hc h.symm
          have HRU := HRT.out
          rw [if_neg hc] at HRU
          have HS1 := Lib.hid (fun y (hy : Below w5.heap.size w5 y) => VOff.src HRU hy)
          clear HRU HRT
          go_region_law ((first
            | (refine step_appV rfl _ _ rfl w5.heap.size _ [v] rfl (vrow_of_block (by (first | exact heap_alloc2_new _ _ _ | exact heap_alloc2_old _ _ _ | exact heap_alloc_new _ _)) (by (first | omega | (simp; done) | (simp; omega))) [v] rfl rfl (by simp)) _ T rfl (by refine HS1.out _ ?_; (repeat (first | exact Below.refl _ _ | exact hb1 | refine Below.drew ?_ | refine Below.alloc ?_ ?_ _)); (all_goals (first | omega | (simp; done) | (simp; omega)))) (by simp; try omega) (by (first | omega | (simp; done) | (simp; omega))) ?_; intro v1 x1 hr1 hp1; have hb1 : Below w5.heap.size w5 x1 := Below.trans (by (repeat (first | exact Below.refl _ _ | exact hb1 | refine Below.drew ?_ | refine Below.alloc ?_ ?_ _)); (all_goals (first | omega | (simp; done) | (simp; omega)))) (hp1.below (by (first | omega | (simp; done) | (simp; omega))) (fun k hk => by cases hk; (first | omega | (simp; done) | (simp; omega)))); have hbs1 := hb1.size)
            | (refine step_appV rfl _ _ rfl w5.heap.size _ ([v] ++ T) rfl (by first | exact hr1 | (refine hr1.grow ?_; (repeat (first | exact Below.refl _ _ | exact hb1 | refine Below.drew ?_ | refine Below.alloc ?_ ?_ _)); (all_goals (first | omega | (simp; done) | (simp; omega))))) _ all rfl (by refine HS2.out _ ?_; (repeat (first | exact Below.refl _ _ | exact hb1 | refine Below.drew ?_ | refine Below.alloc ?_ ?_ _)); (all_goals (first | omega | (simp; done) | (simp; omega)))) (by simp; try omega) (by (first | omega | (simp; done) | (simp; omega))) ?_; intro v2 x2 hr2 hp2; have hb2 : Below w5.heap.size w5 x2 := Below.trans (by (repeat (first | exact Below.refl _ _ | exact hb1 | refine Below.drew ?_ | refine Below.alloc ?_ ?_ _)); (all_goals (first | omega | (simp; done) | (simp; omega)))) (hp2.below (by (first | omega | (simp; done) | (simp; omega))) (fun k hk => hr1.base_le hk)); obtain ⟨A2, c2, e2, hVx, hAx⟩ := hr2.reads; subst e2; clear hVx hAx)))
          have HTS := Lib.hid (show S.length = T.length + 1 from hTl)
          have R2 := Lib.hid hr2
          have HB2 := Lib.hid hb2
          have HV2 := Lib.hid hr2.vals
          have HL := Lib.hid (show ([v] ++ T ++ all).length = T.length + all.length + 1 by simp; try omega)
          have P2 := Lib.hid (P5.out.grow hb2)
          have K2 := Lib.hid (K5.out.trans (hb2.mono K5.out.size))
          have V5 := Lib.hid (VRow.vals R5.out)
          have HF2 := Lib.hid (show ∀ x ∈ [v] ++ T ++ all, x.fits from fun x hx => by
              rcases List.mem_append.1 hx with h | h
              · rcases List.mem_append.1 h with h | h
                · rw [List.mem_singleton.1 h]; exact HVF.out
                · first | exact HTF.out x h | cases h
              · exact HFT.out x (List.mem_append_right _ h))
          clear hr1 hp1 hb1 hbs1 hr2 hp2 hb2 d0 d1 d2 d3 d4 d5 hz HS1 HS2 pI q5 P5
          go_simp
          go_wp2_with fail
          go_loopw [69] (fun t wr => ∃ i : Nat, i ≤ T.length + all.length + 1 ∧ t = .int .i64 i ∧ Below x2.heap.size x2 wr) (fun t _ => T.length + all.length + 1 - (intOf t).toNat)
          case atStart => exact ⟨0, Nat.zero_le _, rfl, Below.refl _ _⟩
          case round =>
            obtain ⟨i, hil, rfl, hB⟩ := hrel
            have MB := Lib.hid hB
            clear hB
            by_cases hi : i < T.length + all.length + 1
            · obtain ⟨g2, o2, x, rfl, hg2, hx2, c0, c1, c2', c3, c4, c5'⟩ := (HV2.out.grow MB.out).at_ (i := i) (by rw [HL.out]; exact hi)
              have p1 : decide ((i : Int) < (T.length : Int) + (all.length : Int) + 1) = true := decide_eq_true (by omega)
              have p2 : decide (i < T.length + all.length + 1) = true := decide_eq_true hi
              have HFX := Lib.hid (HF2.out x (List.mem_of_getElem? hx2))
              have k1 := Lib.hid ((Below.refl wr.heap.size wr).alloc (Nat.le_refl _) (.cells #[.int .i64 x.tag, .string (bs x.text), .int .u64 x.bits, .string (bs x.cls), .string (bs x.name), .string (bs x.desc)] 25))
              have q1 := Lib.hid (vbox_new wr x)
              have HPN := Lib.hid (fun (y : World) (k : Below wr.heap.size wr y) => pnumber_any _ b m n u O x y (P2.out.grow (MB.out.trans (k.mono MB.out.size))) HFX.out.k)
              have hrn := fun (y : World) (k : Below wr.heap.size wr y) => rnumber_any (some ⟨g, 0, none⟩) c5 S x y (V5.out.grow (HB2.out.trans ((MB.out.trans (k.mono MB.out.size)).mono HB2.out.size))) (by omega)
              have hnm := HNM.out x
              simp only [hnm, HTS.out] at hrn
              have HRN := Lib.hid hrn
              unfold vv at HPN HRN
              clear hx2 hrn hnm
              go_wp2_with fail
              generalize wr.alloc (.cells #[.int .i64 x.tag, .string (bs x.text), .int .u64 x.bits, .string (bs x.cls), .string (bs x.name), .string (bs x.desc)] 25) = W1 at k1 q1 ⊢
              obtain ⟨e0, e1, e2, e3, e4, e5⟩ := q1.out.at_
              have hz1 := q1.out.lt
              have HPG := Lib.hid (fun g : Gr W1 => HPN.out g.1 (k1.out.trans (g.2.mono k1.out.size)))
              have HRG := Lib.hid (fun g : Gr W1 => HRN.out g.1 (k1.out.trans (g.2.mono k1.out.size)))
              clear HPN HRN
              refine wp_region_grow (by kernel_rfl) (by kernel_rfl) ?_
              repeat (go_big_quiet_step ((first | (go_at_call 10; exact Gr.call (HPG.out _)) | (go_at_call 12; exact Gr.call (HRG.out _)))))
              refine wpQuiet_nil ?_
              intro g1
              obtain ⟨w1, hb1⟩ := g1
              have NB := Lib.hid (MB.out.trans ((k1.out.trans (hb1.mono k1.out.size)).mono MB.out.size))
              dsimp only
              clear hb1 HPG HRG k1 q1
              go_wp2
              go_roundw
              case rel => exact ⟨i + 1, by omega, by go_num, NB.out⟩
              case measure => simp [intOf]; omega
            · obtain rfl : i = T.length + all.length + 1 := by omega
              have p1 : decide ((T.length + all.length + 1 : Nat) < T.length + all.length + 1) = false := decide_eq_false (by omega)
              have p2 : decide (((T.length : Int) + (all.length : Int) + 1) < ((T.length : Int) + (all.length : Int) + 1)) = false := decide_eq_false (by omega)
              have B3 := Lib.hid (HB2.out.trans (MB.out.mono HB2.out.size))
              have K6 := Lib.hid (K2.out.trans (MB.out.mono K2.out.size))
              have P6 := Lib.hid (P2.out.grow MB.out)
              have V6 := Lib.hid (V5.out.grow B3.out)
              have hrr0 := fun w h => rraw_any (some ⟨g, 0, none⟩) c5 S w h (by omega)
              rw [HTS.out] at hrr0
              have hrr := Lib.hid hrr0
              clear hrr0
              clear P2 V5 MB B3
              go_wp2_with fail
              refine (praw_any _ b m n u O wr P6.out (by omega) HFO.out).mono ?_
              rintro e w7 ⟨u7, rfl, hr7, hb7⟩
              have V7 := Lib.hid (V6.out.grow hb7)
              have K7 := Lib.hid (K6.out.trans (hb7.mono K6.out.size))
              obtain ⟨A7, c7, rfl, hR7⟩ := hr7.reads
              have R7 := Lib.hid hR7
              clear hr7 hb7 hR7
              go_wp2_with fail
              refine (hrr.out w7 V7.out).mono ?_
              rintro e w8 ⟨u8, rfl, hr8, hb8⟩
              have R8 := Lib.hid (R7.out.grow hb8)
              have K8 := Lib.hid (K7.out.trans (hb8.mono K7.out.size))
              rw [HRS.out] at hr8
              obtain ⟨A8, c8, rfl, hR8⟩ := hr8.reads
              have R9 := Lib.hid hR8
              clear hr8 hb8 hR8
              go_wp2_with fail
              refine (same_any A7 A8 c7 c8 (Pv.raws O) (Pv.raws O) w8 R8.out R9.out (raws_small (by omega)) (raws_small (by omega))).mono ?_
              rintro e w9 ⟨rfl, hb9⟩
              rw [decide_eq_true rfl]
              have K9 := Lib.hid (K8.out.trans (hb9.mono K8.out.size))
              clear hb9
              go_wp2_with fail
              go_ret
              exact ⟨rfl, K9.out⟩
end Go.Proofs.Ytimheacdaafodaa
