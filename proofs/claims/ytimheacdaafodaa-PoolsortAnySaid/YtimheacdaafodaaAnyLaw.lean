/- The walk of layer 19's third law. -/
import Derived.Test.YtimheacdaafodaaFixed
import Derived.Test.YtimheacdaafodaaAnyKeep
import Derived.Test.YtimheacdaafodaaPBytesB
namespace Go.Proofs.Ytimheacdaafodaa
open Go.RowKit Go.Maps

theorem pb_told {w0 x : World} (hb : Below w0.heap.size w0 x) {L : List Rw} {ω1 : OrdC.Out} (h1 : RF L ω1) (e1 : x.heap[ω1.B]? = some ω1.obj) (hL : L.length ≤ 10000) (hf : ∀ r ∈ L, r.fit) :
    Calls Try.prog 18 #[ω1.v] x fun e y => ∃ ω : OrdC.Out, e = .returned ω.v ∧ Below x.heap.size x y ∧ (ω.got = true → w0.heap.size ≤ ω.B ∧ y.heap[ω.B]? = some ω.obj) ∧ BF (Rw.bytes L) ω := by
  obtain ⟨_, A, c, f1, hx⟩ := h1
  rw [f1]
  refine (pbytes_any A c L x (hx x e1) hL hf).mono ?_
  rintro e y ⟨v, rfl, hr, hb2⟩
  obtain ⟨ω, h1, h2, h3⟩ := brow_out hr (bytes_ne L)
  exact ⟨ω, by rw [h1], hb2, fun _ => ⟨Nat.le_trans hb.size h2.1, h2.2⟩, h3⟩
theorem rev_snoc {all : List Pv} {j : Nat} {v : Pv} (h : all[j]? = some v) : (all.drop (j + 1)).reverse ++ [v] = (all.drop j).reverse := by
  obtain ⟨h1, rfl⟩ := List.getElem?_eq_some_iff.1 h
  rw [List.drop_eq_getElem_cons h1, List.reverse_cons]
theorem needs_snoc {all : List Pv} {i : Nat} {v : Pv} (h : all[i]? = some v) : all.reverse ++ (all.take i).flatMap Pv.needs ++ v.needs = all.reverse ++ (all.take (i + 1)).flatMap Pv.needs := by
  obtain ⟨h1, rfl⟩ := List.getElem?_eq_some_iff.1 h
  rw [List.take_succ_eq_append_getElem h1, List.flatMap_append, List.append_assoc]
  simp
theorem needs_len2 : ∀ (l : List Pv), (l.flatMap Pv.needs).length ≤ 2 * l.length
  | [] => by simp
  | v :: l => by
    have := v.needs_len
    have := needs_len2 l
    rw [List.flatMap_cons, List.length_append, List.length_cons]
    omega
set_option maxHeartbeats 8000000 in
set_option maxRecDepth 100000 in
theorem anylaw_any (A B : Option Addr) (c d : Nat) (low all : List Pv) (w : World) (hx : Vals w A c low) (hy : Vals w B d all) (hA : A = none → c = 0) (hn : low.length ≤ 140737488355328) (hm : all.length ≤ 140737488355328) (hf : ∀ v ∈ low ++ all, v.fits) :
    Calls Try.prog 5 #[.slice A low.length c, .slice B all.length d] w fun e w' => e = .returned (.bool true) ∧ Below w.heap.size w w' := by
  have HX := Lib.hid hx
  have HY := Lib.hid hy
  have HFT := Lib.hid hf
  have HAN := Lib.hid hA
  have HFX := Lib.hid fixed_any
  have HF1 := Lib.hid (fun w h => few_any A c low w h hn (fun x hx => hf x (List.mem_append_left _ hx)))
  have HF2 := Lib.hid (fun w h => few_any B d all w h hm (fun x hx => hf x (List.mem_append_right _ hx)))
  clear hx hy hf hA
  go_enter Try.func5, Try.ntmps5
  go_wp2_with fail
  refine (HFX.out w).mono ?_
  rintro e w1 ⟨rfl, hb1⟩
  have K1 := Lib.hid hb1
  clear hb1 HFX
  go_wp2_with fail
  refine (HF1.out w1 (HX.out.grow K1.out)).mono ?_
  rintro e w2 ⟨rfl, hb2⟩
  have K2 := Lib.hid (K1.out.trans (hb2.mono K1.out.size))
  clear hb2 K1 HF1
  cases f1 : Pv.few low with
  | false =>
    go_wp2_with fail
    go_ret
    exact ⟨rfl, K2.out⟩
  | true =>
    have L1 := few_len f1
    have FW1 := Lib.hid f1
    clear f1
    go_wp2_with fail
    refine (HF2.out w2 (HY.out.grow K2.out)).mono ?_
    rintro e w3 ⟨rfl, hb3⟩
    have K3 := Lib.hid (K2.out.trans (hb3.mono K2.out.size))
    clear hb3 K2 HF2
    cases f2 : Pv.few all with
    | false =>
      go_wp2_with fail
      go_ret
      exact ⟨rfl, K3.out⟩
    | true =>
      have L2 := few_len f2
      have HFIT := Lib.hid (raws_fit FW1.out f2 HFT.out)
      clear f2 FW1
      have HNW := Lib.hid (fun (y : World) (k : Below w.heap.size w y) (D : Option Addr) (dc : Nat) (T : List Pv) (hT : Vals y D dc T) (hl : T.length ≤ 1000) (ht : ∀ v ∈ T, v.fits) => new_any A D c dc low T y (HX.out.grow k) hT HAN.out (by omega) hl (fun v hv => (List.mem_append.1 hv).elim (fun h => HFT.out v (List.mem_append_left _ h)) (ht v)))
      go_wp2_with fail
      refine (HNW.out w3 K3.out B d all (HY.out.grow K3.out) (by omega) (fun v hv => HFT.out v (List.mem_append_right _ hv))).mono ?_
      rintro e w4 ⟨hnew, hb4⟩
      have K4 := Lib.hid (K3.out.trans (hb4.mono K3.out.size))
      clear hb4 K3 HAN HX
      obtain ⟨pv, er, rfl, hpv⟩ : ∃ pv er, e = .returned (.tuple #[pv, .int .i64 er]) ∧ ((Pv.errOf (low ++ all) ≠ 0 ∧ er ≠ 0 ∧ pv = .pointer none) ∨ (Pv.errOf (low ++ all) = 0 ∧ er = 0 ∧ ∃ b u m n, pv = .pointer (some ⟨b, 0, none⟩) ∧ PoolS w4 w3.heap.size b u m n (Pv.ord low all))) := by
        rcases hnew with ⟨h1, rfl⟩ | ⟨h1, b, u, m, n, rfl, hp⟩
        · exact ⟨_, _, rfl, .inl ⟨h1, h1, rfl⟩⟩
        · exact ⟨_, _, rfl, .inr ⟨h1, rfl, b, u, m, n, rfl, hp⟩⟩
      have HPV := Lib.hid hpv
      clear hpv hnew
      go_wp2_with fail
      go_loopw [7, 8] (fun u t wr => ∃ k : Nat, k ≤ all.length ∧ t = .int .i64 ((k : Int) - 1) ∧ VRow wr w4.heap.size u ((all.drop k).reverse) ∧ Below w4.heap.size w4 wr) (fun _ t _ => (intOf t + 1).toNat)
      case atStart => exact ⟨all.length, Nat.le_refl _, rfl, by rw [List.drop_length]; exact VRow.nil _ _, Below.refl _ _⟩
      case round =>
        obtain ⟨k, hk, ht, hr, hB⟩ := hrel
        have MR := Lib.hid hr
        have MB := Lib.hid hB
        clear hr hB
        cases k with
        | succ j =>
          rw [show (((j + 1 : Nat) : Int) - 1) = (j : Int) from by omega] at ht
          subst ht
          have p1 : decide ((0 : Int) ≤ (j : Int)) = true := decide_eq_true (by omega)
          have p2 : decide ((j : Int) < (all.length : Int)) = true := decide_eq_true (by omega)
          have p3 : decide (j < all.length) = true := decide_eq_true (by omega)
          obtain ⟨g, o, v, rfl, hg, hv, c0, c1, c2, c3, c4, c5⟩ := (HY.out.grow (K4.out.trans (MB.out.mono K4.out.size))).at_ (i := j) (by omega)
          have HS := Lib.hid (rev_snoc hv)
          have hrl : ((all.drop (j + 1)).reverse).length ≤ 40 := by rw [List.length_reverse, List.length_drop]; omega
          clear hv
          generalize (all.drop (j + 1)).reverse = acc at *
          have k1 := Lib.hid ((Below.refl wr.heap.size wr).alloc (Nat.le_refl _) (.cells #[.int .i64 v.tag, .string (bs v.text), .int .u64 v.bits, .string (bs v.cls), .string (bs v.name), .string (bs v.desc)] 25))
          go_wp2_with (at_builtin; refine wpList_appV rfl _ _ rfl w4.heap.size _ acc rfl (MR.out.grow k1.out) _ [v] rfl (src_val (heap_alloc_new _ _) 1) (by simp; omega) (Nat.le_trans MB.out.size k1.out.size) ?_; intro v5 x5 hr5 hp5)
          have N5 := Lib.hid (show VRow x5 w4.heap.size v5 ((all.drop j).reverse) from by rw [← HS.out]; exact hr5)
          have NB5 := Lib.hid ((MB.out.trans (k1.out.mono MB.out.size)).trans (hp5.below (Nat.le_trans MB.out.size k1.out.size) (fun k hk => MR.out.base_le hk)))
          clear hr5 hp5 c0 c1 c2 c3 c4 c5 k1 MR
          go_wp2_with fail
          go_roundw
          case rel => exact ⟨j, by omega, by go_num, N5.out, NB5.out⟩
          case measure => simp [intOf]
        | zero =>
          subst ht
          have p1 : decide ((0 : Int) ≤ ((0 : Nat) : Int) - 1) = false := by decide
          rw [List.drop_zero] at MR
          have HS1 := Lib.hid ((HY.out.grow K4.out).src MB.out)
          go_wp2_with (at_builtin; refine wpList_appVK rfl _ _ rfl w4.heap.size _ all.reverse rfl MR.out _ all rfl HS1.out (by simp; omega) MB.out.size ?_; intro v5 x5 hr5 hp5 hk5)
          obtain ⟨A5, d5, rfl, hV5, _⟩ := hr5.reads
          have NB5 := Lib.hid (MB.out.trans (hp5.below MB.out.size (fun k hk => MR.out.base_le hk)))
          have MR5 := Lib.hid hk5
          have HQ := Lib.hid (HNW.out x5 (K4.out.trans (NB5.out.mono K4.out.size)) A5 d5 (all.reverse ++ all) hV5 (by simp; omega) (fun v hv => HFT.out v (List.mem_append_right _ (by simpa using hv))))
          clear hr5 hp5 hk5 hV5 MR MB HS1
          refine HQ.out.mono ?_
          rintro e x6 ⟨hnew, hb6⟩
          have NB6 := Lib.hid (NB5.out.trans (hb6.mono NB5.out.size))
          have MR6 := Lib.hid (MR5.out.grow hb6)
          have HU5 := Lib.hid (fun k (hk : u7.ownBlock = some k) => (World.ownsRow.lt MR5.out k hk).2)
          have HET := twice_err low all
          have HOT := twice_ord low all
          unfold Pv.twice at HET HOT
          rw [HOT] at hnew
          obtain ⟨qv, eq, rfl, hqv⟩ : ∃ qv eq, e = .returned (.tuple #[qv, .int .i64 eq]) ∧ ((Pv.errOf (low ++ all) ≠ 0 ∧ eq ≠ 0) ∨ (Pv.errOf (low ++ all) = 0 ∧ eq = 0 ∧ ∃ b u m n, qv = .pointer (some ⟨b, 0, none⟩) ∧ PoolS x6 x5.heap.size b u m n (Pv.ord low all))) := by
            rcases hnew with ⟨h1, rfl⟩ | ⟨h1, b, u, m, n, rfl, hp⟩
            · exact ⟨_, _, rfl, .inl ⟨fun h => h1 (HET.2 h), h1⟩⟩
            · exact ⟨_, _, rfl, .inr ⟨HET.1 h1, rfl, b, u, m, n, rfl, hp⟩⟩
          have HQV := Lib.hid hqv
          clear hnew hb6 hqv HQ HET HOT MR5
          rcases HPV.out with ⟨herr, hpe, rfl⟩ | ⟨herr, rfl, bp, up, mp, np, rfl, hpp⟩
          · rcases HQV.out with ⟨_, hqe⟩ | ⟨h, _⟩
            · have he : (er != 0) = true := by simpa using hpe
              have he2 : (eq != 0) = true := by simpa using hqe
              clear HPV HQV
              go_wp2_with fail
              go_ret
              exact ⟨rfl, K4.out.trans (NB6.out.mono K4.out.size)⟩
            · exact absurd h herr
          · rcases HQV.out with ⟨h, _⟩ | ⟨_, rfl, bq, uq, mq, nq, rfl, hqq⟩
            · exact absurd herr h
            have HP := Lib.hid hpp
            have HQ0 := Lib.hid (hqq.lower NB5.out.size)
            have HAP := Lib.hid (show ApartOf u7 [uq] from fun k hk u hu e => by
              rw [List.mem_singleton.1 hu] at e
              have h1 := HU5.out k hk
              have h2 := hqq.row.base_le e
              omega)
            have HEM := Lib.hid (more_err herr)
            have HOM := Lib.hid (more_ord low all)
            have hol := ord_len low all
            have HOF := Lib.hid (show ∀ v ∈ Pv.ord low all, v.fits from fun v hv => Pv.fits_cl HFT.out ((Pv.ord_mem low all v).1 hv))
            clear hpp hqq HPV HQV HU5 herr
            generalize Pv.ord low all = O at *
            go_wp2_with fail
            go_loopw [7, 59] (fun u t wr => ∃ i : Nat, i ≤ all.length ∧ t = .int .i64 i ∧ VRow wr w4.heap.size u (all.reverse ++ (all.take i).flatMap Pv.needs) ∧ PoolS wr w4.heap.size bq uq mq nq O ∧ ApartOf u [uq] ∧ Below w4.heap.size w4 wr) (fun _ t _ => all.length - (intOf t).toNat)
            case atStart => exact ⟨0, Nat.zero_le _, rfl, by rw [List.take_zero, List.flatMap_nil, List.append_nil]; exact MR6.out, HQ0.out, HAP.out, NB6.out⟩
            case round =>
              obtain ⟨i, hil, rfl, hr, hq, hap, hB⟩ := hrel
              have MR := Lib.hid hr
              have MQ := Lib.hid hq
              have MA := Lib.hid hap
              have MB := Lib.hid hB
              clear hr hB hq hap MR6 HQ0 HAP NB6 NB5
              have hrl : (all.reverse ++ (all.take i).flatMap Pv.needs).length ≤ 120 := by
                have := needs_len2 (all.take i)
                rw [List.length_take] at this
                rw [List.length_append, List.length_reverse]
                omega
              by_cases hi : i < all.length
              · obtain ⟨g, o, v, rfl, hg, hv, c0, c1, c2, c3, c4, c5⟩ := (HY.out.grow (K4.out.trans (MB.out.mono K4.out.size))).at_ hi
                have p1 : decide ((i : Int) < (all.length : Int)) = true := decide_eq_true (by omega)
                have p2 : decide (i < all.length) = true := decide_eq_true hi
                have HS := Lib.hid (needs_snoc hv)
                clear hv
                generalize all.reverse ++ (all.take i).flatMap Pv.needs = acc at *
                have k1 := Lib.hid ((Below.refl wr.heap.size wr).alloc (Nat.le_refl _) (.cells #[.int .i64 v.tag, .string (bs v.text), .int .u64 v.bits, .string (bs v.cls), .string (bs v.name), .string (bs v.desc)] 25))
                have hnd := fun w => needs_any v w
                unfold vv Gives at hnd
                have HND := Lib.hid hnd
                have hnl := v.needs_len
                clear hnd
                go_wp2_with fail
                refine (HND.out _).mono ?_
                rintro e x3 ⟨u7, rfl, hr7, hb7⟩
                obtain ⟨A7, d7, rfl, hV7, _⟩ := hr7.reads
                have k3 := Lib.hid (k1.out.trans (hb7.mono k1.out.size))
                have R3 := Lib.hid (MR.out.grow k3.out)
                have Q3 := Lib.hid (MQ.out.grow k3.out)
                have B3 := Lib.hid (MB.out.trans (k3.out.mono MB.out.size))
                have HSR := Lib.hid (hV7.src (Below.refl _ _))
                clear hr7 hb7 hV7 c0 c1 c2 c3 c4 c5 k1 k3 MR MQ MB HND p1 p2 hg
                go_wp2_with (at_builtin; refine wpList_appV rfl _ _ rfl w4.heap.size _ acc rfl R3.out _ v.needs rfl HSR.out (by omega) B3.out.size ?_; intro v5 x5 hr5 hp5)
                have N5 := Lib.hid (show VRow x5 w4.heap.size v5 (all.reverse ++ (all.take (i + 1)).flatMap Pv.needs) from by rw [← HS.out]; exact hr5)
                have NQ5 := Lib.hid (Q3.out.kept R3.out hp5.1 MA.out)
                have NA5 := Lib.hid (MA.out.hop hp5 (fun u hu k hk => by rw [List.mem_singleton.1 hu] at hk; exact (World.ownsRow.lt Q3.out.row k hk).2))
                have NB5 := Lib.hid (B3.out.trans (hp5.below B3.out.size (fun k hk => R3.out.base_le hk)))
                clear hr5 hp5 R3 Q3 B3 HSR MA
                go_wp2_with fail
                go_roundw
                case rel => exact ⟨i + 1, by omega, by go_num, N5.out, NQ5.out, NA5.out, NB5.out⟩
                case measure => simp [intOf]; omega
              · obtain rfl : i = all.length := by omega
                have p1 : decide ((all.length : Int) < (all.length : Int)) = false := decide_eq_false (by omega)
                have p2 : decide (all.length < all.length) = false := decide_eq_false (by omega)
                rw [List.take_length] at MR hrl
                have HTF := Lib.hid (show ∀ v ∈ all.reverse ++ all.flatMap Pv.needs, v.fits from fun v hv => by
                  rcases List.mem_append.1 hv with h | h
                  · exact HFT.out v (List.mem_append_right _ (by simpa using h))
                  · obtain ⟨x, hx, h⟩ := List.mem_flatMap.1 h
                    exact Pv.fits_needs (HFT.out x (List.mem_append_right _ hx)) h)
                unfold Pv.more at HEM HOM
                generalize all.reverse ++ all.flatMap Pv.needs = T at *
                obtain ⟨A7, d7, e7, hV7, _⟩ := MR.out.reads
                have HR := Lib.hid (HNW.out wr (K4.out.trans (MB.out.mono K4.out.size)) A7 d7 T hV7 (by omega) HTF.out)
                subst e7
                clear hV7 MR MA
                go_wp2_with fail
                refine HR.out.mono ?_
                rintro e x9 ⟨hnew, hb9⟩
                rcases hnew with ⟨h, _⟩ | ⟨_, br, ur, mr, nr, rfl, hrr⟩
                · exact absurd HEM.out h
                rw [HOM.out] at hrr
                have B9 := MB.out.trans (hb9.mono MB.out.size)
                have P9 := Lib.hid (HP.out.grow B9)
                have Q9 := Lib.hid (MQ.out.grow hb9)
                have R9 := Lib.hid hrr
                have KB := Lib.hid (K4.out.trans (B9.mono K4.out.size))
                have HFO := Lib.hid (show ∀ v ∈ O, v.fits from HOF.out)
                have hrl2 : (Pv.raws O).length ≤ 10000 := by
                  have := raw1_len O (Pv.num O)
                  unfold Pv.raws
                  rw [List.length_cons]
                  omega
                have hol2 : O.length ≤ 100000 := by omega
                have P9' := Lib.hid (P9.out.grow (Below.refl _ _).drew)
                have Q9' := Lib.hid (Q9.out.grow (Below.refl _ _).drew)
                have R9' := Lib.hid (R9.out.grow (Below.refl _ _).drew)
                clear hrr B9 hb9 HR HEM HOM MQ MB P9 Q9 R9
                go_upto_region 20 with fail
                refine OrdC.wp_region_ord (fr := fun o => if o.dst == some 82 || o.dst == some 84 || o.dst == some 89 || o.dst == some 91 || o.dst == some 96 || o.dst == some 97 || o.dst == some 100 || o.dst == some 101 then 2 else 0) (Ψ := fun o ω => if o.dst == some 97 || o.dst == some 101 then BF (Rw.bytes (Pv.raws O)) ω else RF (Pv.raws O) ω) 31 (by kernel_rfl) (by kernel_rfl) (fun _ _ d _ _ h => by cases d <;> exact h) ?_
                try simp only [List.take_succ_cons, List.take_zero, List.drop_succ_cons, List.drop_zero]
                repeat (first | (refine OrdC.wpLex_skip rfl rfl ?_; simp only [Act.put, List.setIfInBounds_toArray, List.set_cons_zero, List.set_cons_succ]) | (refine OrdC.wpLex_fix rfl rfl ?_; intro F hF R hR hne K hK; go_big_quiet_op; first | (go_big_quiet_on; clear hne hR R hF F) | (apply Exists.intro; refine ⟨fun g => ?_, ?_⟩; (((fail))); go_big_quiet_on; clear hne hR R hF F)) | (apply OrdC.wpLex_blk rfl rfl; (focus (intro x hx; go_simp; exact ⟨rfl, rfl⟩)); intro B hB; simp only [Act.put, blkVal, List.setIfInBounds_toArray, List.set_cons_zero, List.set_cons_succ]))
                refine OrdC.lex_call rfl rfl 11 #[.pointer (some ⟨bp, 0, none⟩)] (fun x hx => by go_simp) (fun x hx => raw_told hx.below P9'.out hol2 HFO.out) ?_
                intro ω82 hω82
                have r82 : RF (Pv.raws O) ω82 := hω82
                rw [if_pos r82.1]
                clear hω82
                have R82 := Lib.hid r82
                clear r82
                simp only [Act.put, List.setIfInBounds_toArray, List.set_cons_zero, List.set_cons_succ]
                try simp only [List.take_succ_cons, List.take_zero, List.drop_succ_cons, List.drop_zero]
                repeat (first | (refine OrdC.wpLex_skip rfl rfl ?_; simp only [Act.put, List.setIfInBounds_toArray, List.set_cons_zero, List.set_cons_succ]) | (refine OrdC.wpLex_fix rfl rfl ?_; intro F hF R hR hne K hK; go_big_quiet_op; first | (go_big_quiet_on; clear hne hR R hF F) | (apply Exists.intro; refine ⟨fun g => ?_, ?_⟩; (((fail))); go_big_quiet_on; clear hne hR R hF F)) | (apply OrdC.wpLex_blk rfl rfl; (focus (intro x hx; go_simp; exact ⟨rfl, rfl⟩)); intro B hB; simp only [Act.put, blkVal, List.setIfInBounds_toArray, List.set_cons_zero, List.set_cons_succ]))
                refine OrdC.lex_call rfl rfl 11 #[.pointer (some ⟨bq, 0, none⟩)] (fun x hx => by go_simp) (fun x hx => raw_told hx.below Q9'.out hol2 HFO.out) ?_
                intro ω84 hω84
                have r84 : RF (Pv.raws O) ω84 := hω84
                rw [if_pos r84.1]
                clear hω84
                have R84 := Lib.hid r84
                clear r84
                simp only [Act.put, List.setIfInBounds_toArray, List.set_cons_zero, List.set_cons_succ]
                try simp only [List.take_succ_cons, List.take_zero, List.drop_succ_cons, List.drop_zero]
                repeat (first | (refine OrdC.wpLex_skip rfl rfl ?_; simp only [Act.put, List.setIfInBounds_toArray, List.set_cons_zero, List.set_cons_succ]) | (refine OrdC.wpLex_fix rfl rfl ?_; intro F hF R hR hne K hK; go_big_quiet_op; first | (go_big_quiet_on; clear hne hR R hF F) | (apply Exists.intro; refine ⟨fun g => ?_, ?_⟩; (((fail))); go_big_quiet_on; clear hne hR R hF F)) | (apply OrdC.wpLex_blk rfl rfl; (focus (intro x hx; go_simp; exact ⟨rfl, rfl⟩)); intro B hB; simp only [Act.put, blkVal, List.setIfInBounds_toArray, List.set_cons_zero, List.set_cons_succ]))
                refine OrdC.lex_callv rfl rfl 13 #[ω82.v, ω84.v] (.bool true) (fun x hx => by go_simp) (fun x hx => same_told R82.out R84.out (hx.fact 82 _ _ ⟨by kernel_rfl, .inl (.inr ⟨rfl, rfl, rfl⟩)⟩).2 (hx.fact 84 _ _ ⟨by kernel_rfl, .inr ⟨rfl, rfl, rfl⟩⟩).2 (by omega)) ?_
                simp only [Act.put, List.setIfInBounds_toArray, List.set_cons_zero, List.set_cons_succ]
                try simp only [List.take_succ_cons, List.take_zero, List.drop_succ_cons, List.drop_zero]
                repeat (first | (refine OrdC.wpLex_skip rfl rfl ?_; simp only [Act.put, List.setIfInBounds_toArray, List.set_cons_zero, List.set_cons_succ]) | (refine OrdC.wpLex_fix rfl rfl ?_; intro F hF R hR hne K hK; go_big_quiet_op; first | (go_big_quiet_on; clear hne hR R hF F) | (apply Exists.intro; refine ⟨fun g => ?_, ?_⟩; (((fail))); go_big_quiet_on; clear hne hR R hF F)) | (apply OrdC.wpLex_blk rfl rfl; (focus (intro x hx; go_simp; exact ⟨rfl, rfl⟩)); intro B hB; simp only [Act.put, blkVal, List.setIfInBounds_toArray, List.set_cons_zero, List.set_cons_succ]))
                refine OrdC.lex_call rfl rfl 11 #[.pointer (some ⟨bp, 0, none⟩)] (fun x hx => by go_simp) (fun x hx => raw_told hx.below P9'.out hol2 HFO.out) ?_
                intro ω89 hω89
                have r89 : RF (Pv.raws O) ω89 := hω89
                rw [if_pos r89.1]
                clear hω89
                have R89 := Lib.hid r89
                clear r89
                simp only [Act.put, List.setIfInBounds_toArray, List.set_cons_zero, List.set_cons_succ]
                try simp only [List.take_succ_cons, List.take_zero, List.drop_succ_cons, List.drop_zero]
                repeat (first | (refine OrdC.wpLex_skip rfl rfl ?_; simp only [Act.put, List.setIfInBounds_toArray, List.set_cons_zero, List.set_cons_succ]) | (refine OrdC.wpLex_fix rfl rfl ?_; intro F hF R hR hne K hK; go_big_quiet_op; first | (go_big_quiet_on; clear hne hR R hF F) | (apply Exists.intro; refine ⟨fun g => ?_, ?_⟩; (((fail))); go_big_quiet_on; clear hne hR R hF F)) | (apply OrdC.wpLex_blk rfl rfl; (focus (intro x hx; go_simp; exact ⟨rfl, rfl⟩)); intro B hB; simp only [Act.put, blkVal, List.setIfInBounds_toArray, List.set_cons_zero, List.set_cons_succ]))
                refine OrdC.lex_call rfl rfl 11 #[.pointer (some ⟨br, 0, none⟩)] (fun x hx => by go_simp) (fun x hx => raw_told hx.below R9'.out hol2 HFO.out) ?_
                intro ω91 hω91
                have r91 : RF (Pv.raws O) ω91 := hω91
                rw [if_pos r91.1]
                clear hω91
                have R91 := Lib.hid r91
                clear r91
                simp only [Act.put, List.setIfInBounds_toArray, List.set_cons_zero, List.set_cons_succ]
                try simp only [List.take_succ_cons, List.take_zero, List.drop_succ_cons, List.drop_zero]
                repeat (first | (refine OrdC.wpLex_skip rfl rfl ?_; simp only [Act.put, List.setIfInBounds_toArray, List.set_cons_zero, List.set_cons_succ]) | (refine OrdC.wpLex_fix rfl rfl ?_; intro F hF R hR hne K hK; go_big_quiet_op; first | (go_big_quiet_on; clear hne hR R hF F) | (apply Exists.intro; refine ⟨fun g => ?_, ?_⟩; (((fail))); go_big_quiet_on; clear hne hR R hF F)) | (apply OrdC.wpLex_blk rfl rfl; (focus (intro x hx; go_simp; exact ⟨rfl, rfl⟩)); intro B hB; simp only [Act.put, blkVal, List.setIfInBounds_toArray, List.set_cons_zero, List.set_cons_succ]))
                refine OrdC.lex_callv rfl rfl 13 #[ω89.v, ω91.v] (.bool true) (fun x hx => by go_simp) (fun x hx => same_told R89.out R91.out (hx.fact 89 _ _ ⟨by kernel_rfl, .inl (.inr ⟨rfl, rfl, rfl⟩)⟩).2 (hx.fact 91 _ _ ⟨by kernel_rfl, .inr ⟨rfl, rfl, rfl⟩⟩).2 (by omega)) ?_
                simp only [Act.put, List.setIfInBounds_toArray, List.set_cons_zero, List.set_cons_succ]
                try simp only [List.take_succ_cons, List.take_zero, List.drop_succ_cons, List.drop_zero]
                repeat (first | (refine OrdC.wpLex_skip rfl rfl ?_; simp only [Act.put, List.setIfInBounds_toArray, List.set_cons_zero, List.set_cons_succ]) | (refine OrdC.wpLex_fix rfl rfl ?_; intro F hF R hR hne K hK; go_big_quiet_op; first | (go_big_quiet_on; clear hne hR R hF F) | (apply Exists.intro; refine ⟨fun g => ?_, ?_⟩; (((fail))); go_big_quiet_on; clear hne hR R hF F)) | (apply OrdC.wpLex_blk rfl rfl; (focus (intro x hx; go_simp; exact ⟨rfl, rfl⟩)); intro B hB; simp only [Act.put, blkVal, List.setIfInBounds_toArray, List.set_cons_zero, List.set_cons_succ]))
                refine OrdC.lex_call rfl rfl 11 #[.pointer (some ⟨bp, 0, none⟩)] (fun x hx => by go_simp) (fun x hx => raw_told hx.below P9'.out hol2 HFO.out) ?_
                intro ω96 hω96
                have r96 : RF (Pv.raws O) ω96 := hω96
                rw [if_pos r96.1]
                clear hω96
                have R96 := Lib.hid r96
                clear r96
                simp only [Act.put, List.setIfInBounds_toArray, List.set_cons_zero, List.set_cons_succ]
                try simp only [List.take_succ_cons, List.take_zero, List.drop_succ_cons, List.drop_zero]
                repeat (first | (refine OrdC.wpLex_skip rfl rfl ?_; simp only [Act.put, List.setIfInBounds_toArray, List.set_cons_zero, List.set_cons_succ]) | (refine OrdC.wpLex_fix rfl rfl ?_; intro F hF R hR hne K hK; go_big_quiet_op; first | (go_big_quiet_on; clear hne hR R hF F) | (apply Exists.intro; refine ⟨fun g => ?_, ?_⟩; (((fail))); go_big_quiet_on; clear hne hR R hF F)) | (apply OrdC.wpLex_blk rfl rfl; (focus (intro x hx; go_simp; exact ⟨rfl, rfl⟩)); intro B hB; simp only [Act.put, blkVal, List.setIfInBounds_toArray, List.set_cons_zero, List.set_cons_succ]))
                refine OrdC.lex_call rfl rfl 18 #[ω96.v] (fun x hx => by go_simp) (fun x hx => pb_told hx.below R96.out (hx.fact 96 _ _ ⟨by kernel_rfl, .inr ⟨rfl, rfl, rfl⟩⟩).2 hrl2 HFIT.out) ?_
                intro ω97 hω97
                have r97 : BF (Rw.bytes (Pv.raws O)) ω97 := hω97
                rw [if_pos r97.1]
                clear hω97
                have R97 := Lib.hid r97
                clear r97
                simp only [Act.put, List.setIfInBounds_toArray, List.set_cons_zero, List.set_cons_succ]
                try simp only [List.take_succ_cons, List.take_zero, List.drop_succ_cons, List.drop_zero]
                repeat (first | (refine OrdC.wpLex_skip rfl rfl ?_; simp only [Act.put, List.setIfInBounds_toArray, List.set_cons_zero, List.set_cons_succ]) | (refine OrdC.wpLex_fix rfl rfl ?_; intro F hF R hR hne K hK; go_big_quiet_op; first | (go_big_quiet_on; clear hne hR R hF F) | (apply Exists.intro; refine ⟨fun g => ?_, ?_⟩; (((fail))); go_big_quiet_on; clear hne hR R hF F)) | (apply OrdC.wpLex_blk rfl rfl; (focus (intro x hx; go_simp; exact ⟨rfl, rfl⟩)); intro B hB; simp only [Act.put, blkVal, List.setIfInBounds_toArray, List.set_cons_zero, List.set_cons_succ]))
                refine OrdC.lex_val rfl rfl (.string (bs (Rw.bytes (Pv.raws O)))) (fun x hx => by have h := conv_told R97.out (hx.fact 97 _ _ ⟨by kernel_rfl, .inr ⟨rfl, rfl, rfl⟩⟩).2; go_simp) ?_
                simp only [Act.put, List.setIfInBounds_toArray, List.set_cons_zero, List.set_cons_succ]
                try simp only [List.take_succ_cons, List.take_zero, List.drop_succ_cons, List.drop_zero]
                repeat (first | (refine OrdC.wpLex_skip rfl rfl ?_; simp only [Act.put, List.setIfInBounds_toArray, List.set_cons_zero, List.set_cons_succ]) | (refine OrdC.wpLex_fix rfl rfl ?_; intro F hF R hR hne K hK; go_big_quiet_op; first | (go_big_quiet_on; clear hne hR R hF F) | (apply Exists.intro; refine ⟨fun g => ?_, ?_⟩; (((fail))); go_big_quiet_on; clear hne hR R hF F)) | (apply OrdC.wpLex_blk rfl rfl; (focus (intro x hx; go_simp; exact ⟨rfl, rfl⟩)); intro B hB; simp only [Act.put, blkVal, List.setIfInBounds_toArray, List.set_cons_zero, List.set_cons_succ]))
                refine OrdC.lex_call rfl rfl 11 #[.pointer (some ⟨bp, 0, none⟩)] (fun x hx => by go_simp) (fun x hx => raw_told hx.below P9'.out hol2 HFO.out) ?_
                intro ω100 hω100
                have r100 : RF (Pv.raws O) ω100 := hω100
                rw [if_pos r100.1]
                clear hω100
                have R100 := Lib.hid r100
                clear r100
                simp only [Act.put, List.setIfInBounds_toArray, List.set_cons_zero, List.set_cons_succ]
                try simp only [List.take_succ_cons, List.take_zero, List.drop_succ_cons, List.drop_zero]
                repeat (first | (refine OrdC.wpLex_skip rfl rfl ?_; simp only [Act.put, List.setIfInBounds_toArray, List.set_cons_zero, List.set_cons_succ]) | (refine OrdC.wpLex_fix rfl rfl ?_; intro F hF R hR hne K hK; go_big_quiet_op; first | (go_big_quiet_on; clear hne hR R hF F) | (apply Exists.intro; refine ⟨fun g => ?_, ?_⟩; (((fail))); go_big_quiet_on; clear hne hR R hF F)) | (apply OrdC.wpLex_blk rfl rfl; (focus (intro x hx; go_simp; exact ⟨rfl, rfl⟩)); intro B hB; simp only [Act.put, blkVal, List.setIfInBounds_toArray, List.set_cons_zero, List.set_cons_succ]))
                refine OrdC.lex_call rfl rfl 19 #[ω100.v] (fun x hx => by go_simp) (fun x hx => rb_told hx.below R100.out (hx.fact 100 _ _ ⟨by kernel_rfl, .inr ⟨rfl, rfl, rfl⟩⟩).2 hrl2 HFIT.out) ?_
                intro ω101 hω101
                have r101 : BF (Rw.bytes (Pv.raws O)) ω101 := hω101
                rw [if_pos r101.1]
                clear hω101
                have R101 := Lib.hid r101
                clear r101
                simp only [Act.put, List.setIfInBounds_toArray, List.set_cons_zero, List.set_cons_succ]
                try simp only [List.take_succ_cons, List.take_zero, List.drop_succ_cons, List.drop_zero]
                repeat (first | (refine OrdC.wpLex_skip rfl rfl ?_; simp only [Act.put, List.setIfInBounds_toArray, List.set_cons_zero, List.set_cons_succ]) | (refine OrdC.wpLex_fix rfl rfl ?_; intro F hF R hR hne K hK; go_big_quiet_op; first | (go_big_quiet_on; clear hne hR R hF F) | (apply Exists.intro; refine ⟨fun g => ?_, ?_⟩; (((fail))); go_big_quiet_on; clear hne hR R hF F)) | (apply OrdC.wpLex_blk rfl rfl; (focus (intro x hx; go_simp; exact ⟨rfl, rfl⟩)); intro B hB; simp only [Act.put, blkVal, List.setIfInBounds_toArray, List.set_cons_zero, List.set_cons_succ]))
                refine OrdC.lex_val rfl rfl (.string (bs (Rw.bytes (Pv.raws O)))) (fun x hx => by have h := conv_told R101.out (hx.fact 101 _ _ ⟨by kernel_rfl, .inr ⟨rfl, rfl, rfl⟩⟩).2; go_simp) ?_
                simp only [Act.put, List.setIfInBounds_toArray, List.set_cons_zero, List.set_cons_succ]
                try simp only [List.take_succ_cons, List.take_zero, List.drop_succ_cons, List.drop_zero]
                repeat (first | (refine OrdC.wpLex_skip rfl rfl ?_; simp only [Act.put, List.setIfInBounds_toArray, List.set_cons_zero, List.set_cons_succ]) | (refine OrdC.wpLex_fix rfl rfl ?_; intro F hF R hR hne K hK; go_big_quiet_op; first | (go_big_quiet_on; clear hne hR R hF F) | (apply Exists.intro; refine ⟨fun g => ?_, ?_⟩; (((fail))); go_big_quiet_on; clear hne hR R hF F)) | (apply OrdC.wpLex_blk rfl rfl; (focus (intro x hx; go_simp; exact ⟨rfl, rfl⟩)); intro B hB; simp only [Act.put, blkVal, List.setIfInBounds_toArray, List.set_cons_zero, List.set_cons_succ]))
                refine OrdC.wpLex_nil ?_
                intro w1 hw1
                have NB := Lib.hid (KB.out.trans (((Below.refl x9.heap.size x9).drew.trans hw1.below).mono KB.out.size))
                clear hw1
                go_wp2_with fail
                go_ret
                exact ⟨rfl, NB.out⟩
end Go.Proofs.Ytimheacdaafodaa
