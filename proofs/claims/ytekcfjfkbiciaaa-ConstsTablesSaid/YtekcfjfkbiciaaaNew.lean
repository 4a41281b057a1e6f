/- The walk of layer 19: the pool of values, by the program. -/
import Derived.Test.YtekcfjfkbiciaaaNumber
import Derived.Test.YtekcfjfkbiciaaaKeys
import Derived.Test.YtekcfjfkbiciaaaCheck
namespace Go.Proofs.Ytekcfjfkbiciaaa
open Go.RowKit Go.Maps

theorem clAll_len (l : List Pv) : (clAll l).length = wts l := by
  unfold clAll wts
  rw [List.length_flatMap]
  rfl
theorem ord_len (low all : List Pv) : (Pv.ord low all).length ≤ 8 * low.length + 7 * all.length := by
  unfold Pv.ord Pv.rest
  have h1 := putO_fold_len low []
  have h2 := putO_fold_len ((clAll (low ++ all)).filter fun x => decide (x ∉ low)) []
  have h3 := List.length_filter_le (fun x => decide (x ∉ low)) (clAll (low ++ all))
  have h4 := wts_le (low ++ all)
  rw [clAll_len] at h3
  rw [List.length_append] at h4 ⊢
  unfold sd
  simp only [List.length_nil] at h1 h2
  omega
theorem rest_of {low all ss : List Pv} {S : Pv → Bool} (hf : ∀ v ∈ low ++ all, v.fits) (hS : ∀ x, S x = true ↔ x ∈ clAll (low ++ all)) (h : AllOf (fun x => decide (x ∉ low) && S x) ss) : sd Pv.lt ss = Pv.rest low all := by
  refine rises_uniq Pv.lin (sd_rises Pv.lin _) (sd_rises Pv.lin _) fun x => ?_
  show x ∈ sd Pv.lt ss ↔ x ∈ Pv.rest low all
  rw [sd_mem Pv.lin, Pv.rest_mem, ← hS]
  constructor
  · intro hx
    have := (h.2.2 x (h.2.1 x hx)).1 hx
    simp only [Bool.and_eq_true, decide_eq_true_eq] at this
    exact ⟨this.2, this.1⟩
  · rintro ⟨h1, h2⟩
    refine (h.2.2 x (Pv.fits_cl hf ((hS x).1 h1)).k).2 ?_
    simp [h1, h2]
theorem VRow.nilcap {w : World} {base n c : Nat} {xs : List Pv} (h : VRow w base (.slice none n c) xs) : c = 0 := by
  rcases h.2 with ⟨h, _⟩ | ⟨g, cap, cur, h, _⟩
  · cases h; rfl
  · cases h
theorem del_step {low : List Pv} {j : Nat} {v : Pv} (h : low[j]? = some v) (S : Pv → Bool) : (fun x => !decide (x = v) && (decide (x ∉ low.take j) && S x)) = fun x => decide (x ∉ low.take (j + 1)) && S x := by
  funext x
  have hm : x ∈ low.take (j + 1) ↔ x ∈ low.take j ∨ x = v := by
    obtain ⟨h1, rfl⟩ := List.getElem?_eq_some_iff.1 h
    rw [List.take_succ_eq_append_getElem h1, List.mem_append, List.mem_singleton]
  rw [Bool.eq_iff_iff]
  simp only [Bool.and_eq_true, Bool.not_eq_true', decide_eq_false_iff_not, decide_eq_true_eq, hm]
  constructor
  · rintro ⟨a, b, c⟩
    exact ⟨fun h => h.elim b a, c⟩
  · rintro ⟨a, c⟩
    exact ⟨fun e => a (.inr e), fun e => a (.inl e), c⟩
theorem VSet.keptMaps {w w' : World} {b n m : Nat} {S : Pv → Bool} (h : VSet w b n S) (k : MapsKept m w w') (hne : b ≠ m) : VSet w' b n S := by
  obtain ⟨D, ⟨es, clock, hb, r⟩, h2⟩ := h
  exact ⟨D, ⟨es, clock, k b es clock hne hb, r⟩, h2⟩
/-- What the call comes to. -/
def NewOk (low all : List Pv) (w : World) (e : Ending) (w' : World) : Prop :=
  (Pv.errOf (low ++ all) ≠ 0 ∧ e = .returned (.tuple #[.pointer none, .int .i64 (Pv.errOf (low ++ all))]) ∨
   Pv.errOf (low ++ all) = 0 ∧ ∃ b u m n, e = .returned (.tuple #[.pointer (some ⟨b, 0, none⟩), .int .i64 0]) ∧ PoolS w' w.heap.size b u m n (Pv.ord low all)) ∧ Below w.heap.size w w'
set_option maxHeartbeats 8000000 in
set_option maxRecDepth 100000 in
theorem new_any (A B : Option Addr) (c d : Nat) (low all : List Pv) (w : World) (hx : Vals w A c low) (hy : Vals w B d all) (hA : A = none → c = 0) (hn : low.length ≤ 1000) (hm : all.length ≤ 1000) (hf : ∀ v ∈ low ++ all, v.fits) :
    Calls Try.prog 12 #[.slice A low.length c, .slice B all.length d] w (NewOk low all w) := by
  have HX := Lib.hid hx
  have HY := Lib.hid hy
  have HFT := Lib.hid hf
  have HAN := Lib.hid hA
  clear hx hy hf hA
  have k0 := Lib.hid ((Below.refl w.heap.size w).alloc (Nat.le_refl _) (.cells #[.slice A low.length c, .slice B all.length d] 22))
  have hcc := concat_any w.heap.size A c low B d all (w.alloc (.cells #[.slice A low.length c, .slice B all.length d] 22)) (heap_alloc_new _ _) (HX.out.grow k0.out) (HY.out.grow k0.out) (by omega) (by omega)
  have HCC := Lib.hid hcc
  clear hcc
  go_enter Try.func12, Try.ntmps12
  go_wp2_with fail
  refine HCC.out.mono ?_
  rintro e w2 ⟨v2, rfl, hr2, hb2⟩
  have HB2 := Lib.hid (k0.out.trans (hb2.mono k0.out.size))
  obtain ⟨A2, c2, rfl, hV2, hA2⟩ := hr2.reads
  have HAN2 := Lib.hid (show A2 = none → c2 = 0 by
    rintro rfl
    exact hr2.nilcap)
  have HV2 := Lib.hid hV2
  have HL := Lib.hid (show (low ++ all).length = low.length + all.length from List.length_append)
  rw [HL.out]
  clear hb2 hr2 hV2 hA2 HCC k0
  go_wp2_with fail
  go_loopw [20] (fun t wr => ∃ i : Nat, i ≤ low.length + all.length ∧ t = .int .i64 i ∧ Pv.errOf ((low ++ all).drop i) = Pv.errOf (low ++ all) ∧ Below w2.heap.size w2 wr) (fun t _ => low.length + all.length - (intOf t).toNat)
  case atStart => exact ⟨0, Nat.zero_le _, rfl, rfl, Below.refl _ _⟩
  case round =>
    obtain ⟨i, hil, rfl, herr, hB⟩ := hrel
    have HB := Lib.hid hB
    have HE := Lib.hid herr
    have HW := Lib.hid (HB2.out.trans (hB.mono HB2.out.size))
    clear hB herr
    by_cases hi : i < low.length + all.length
    · obtain ⟨g, o, v, rfl, hg, hv, c0, c1, c2', c3, c4, c5⟩ := (HV2.out.grow HB.out).at_ (i := i) (by rw [HL.out]; exact hi)
      have p1 : decide ((i : Int) < (low.length : Int) + (all.length : Int)) = true := decide_eq_true (by omega)
      have p2 : decide (i < low.length + all.length) = true := decide_eq_true hi
      have he := Pv.errOf_drop hv
      have k1 := Lib.hid ((Below.refl wr.heap.size wr).alloc (Nat.le_refl _) (.cells #[.int .i64 v.tag, .string (bs v.text), .int .u64 v.bits, .string (bs v.cls), .string (bs v.name), .string (bs v.desc)] 25))
      have HR := Lib.hid (fun w => check_any v w)
      unfold vv at HR
      obtain ⟨ck, hck⟩ : ∃ ck, ck = v.chk 0 9 5 := ⟨_, rfl⟩
      rw [← hck] at HR he
      clear hck hv
      by_cases h0 : ck = 0
      · subst h0
        rw [if_pos rfl] at he
        have HE1 := Lib.hid (he.symm.trans HE.out)
        clear he HAN2
        go_wp2_with fail
        generalize wr.alloc (.cells #[.int .i64 v.tag, .string (bs v.text), .int .u64 v.bits, .string (bs v.cls), .string (bs v.name), .string (bs v.desc)] 25) = W at k1 ⊢
        refine (HR.out _).mono ?_
        rintro e w' ⟨rfl, hb⟩
        have HB1 := Lib.hid (HB.out.trans ((k1.out.trans (hb.mono k1.out.size)).mono HB.out.size))
        clear hb
        go_wp2
        go_roundw
        case rel => exact ⟨i + 1, by omega, by go_num, HE1.out, HB1.out⟩
        case measure => simp [intOf]; omega
      · have p3 : (ck != 0) = true := by simpa using h0
        rw [if_neg h0] at he
        have HE1 := Lib.hid (HE.out.symm.trans he)
        have H0 := Lib.hid h0
        clear he h0 HAN2
        go_wp2_with fail
        generalize wr.alloc (.cells #[.int .i64 v.tag, .string (bs v.text), .int .u64 v.bits, .string (bs v.cls), .string (bs v.name), .string (bs v.desc)] 25) = W at k1 ⊢
        refine (HR.out _).mono ?_
        rintro e w' ⟨rfl, hb⟩
        have HB1 := Lib.hid (HW.out.trans ((k1.out.trans (hb.mono k1.out.size)).mono HW.out.size))
        clear hb
        go_wp2
        go_ret2
        exact ⟨.inl ⟨by rw [HE1.out]; exact H0.out, by rw [HE1.out]; rfl⟩, HB1.out⟩
    · have p1 : decide ((i : Int) < (low.length : Int) + (all.length : Int)) = false := decide_eq_false (by omega)
      have HE0 := Lib.hid (show Pv.errOf (low ++ all) = 0 by
        have e : i = (low ++ all).length := by rw [HL.out]; omega
        rw [← HE.out, e, List.drop_length]; rfl)
      have hcl := closure_any A2 c2 (low ++ all) wr (HV2.out.grow HB.out) (by rw [HL.out]; omega) HAN2.out HFT.out
      rw [HL.out] at hcl
      have HCL := Lib.hid hcl
      clear HE hcl
      go_wp2_with fail
      refine HCL.out.mono ?_
      rintro e w3 ⟨S, n3, rfl, hV3, hS3, hn3, hB3⟩
      have HS3 := Lib.hid hS3
      have HB3 := Lib.hid (HW.out.trans (hB3.mono HW.out.size))
      have hbM : w.heap.size ≤ wr.heap.size := HW.out.size
      have hn3' : n3 ≤ 14000 := by rw [HL.out] at hn3; omega
      have HST := Lib.hid (show ∃ i : Nat, i ≤ low.length ∧ (Value.int .i64 0) = .int .i64 i ∧ VSet w3 wr.heap.size n3 (fun x => decide (x ∉ low.take i) && S x) ∧ Below w.heap.size w w3 from
        ⟨0, Nat.zero_le _, rfl, by simpa using hV3, HB3.out⟩)
      clear hV3 hS3 hn3 hB3 HCL HB3
      obtain ⟨M, hM⟩ : ∃ M, M = wr.heap.size := ⟨_, rfl⟩
      rw [← hM] at HST hbM ⊢
      have HM := Lib.hid hM
      clear hM
      go_wp2_with fail
      obtain ⟨wq, rfl⟩ : ∃ wq, wq = wr := ⟨_, rfl⟩
      go_loopw [34] (fun t wx => ∃ i : Nat, i ≤ low.length ∧ t = .int .i64 i ∧ VSet wx M n3 (fun x => decide (x ∉ low.take i) && S x) ∧ Below w.heap.size w wx) (fun t _ => low.length - (intOf t).toNat)
      case atStart => exact HST.out
      case round =>
        clear HST
        obtain ⟨j, hjl, rfl, hV, hB⟩ := hrel
        have MV := Lib.hid hV
        have MB := Lib.hid hB
        clear hV hB
        by_cases hj : j < low.length
        · obtain ⟨g, o, v, rfl, hg, hv, c0, c1, c2', c3, c4, c5⟩ := (HX.out.grow MB.out).at_ hj
          have p1' : decide ((j : Int) < (low.length : Int)) = true := decide_eq_true (by omega)
          have p2' : decide (j < low.length) = true := decide_eq_true hj
          have k1 := Lib.hid ((Below.refl wr.heap.size wr).alloc (Nat.le_refl _) (.cells #[.int .i64 v.tag, .string (bs v.text), .int .u64 v.bits, .string (bs v.cls), .string (bs v.name), .string (bs v.desc)] 25))
          have HFV := Lib.hid (HFT.out v (by simp [List.mem_of_getElem? hv])).k
          have hset := Lib.hid (del_step hv S)
          have hwb : w.heap.size ≤ wr.heap.size := MB.out.size
          clear hv
          go_wp2_with (at_delete; refine wpList_setDel rfl _ _ rfl M n3 _ v rfl (MV.out.grow k1.out) HFV.out rfl ?_; intro w5 hV5 hg5)
          rw [hset.out] at hV5
          have NV := Lib.hid hV5
          have NB := Lib.hid ((MB.out.trans (k1.out.mono hwb)).grown hg5 (Nat.le_trans hwb k1.out.size) (fun k e => by cases e; exact hbM))
          clear hV5 hg5
          go_roundw
          case rel => exact ⟨j + 1, by omega, by go_num, NV.out, NB.out⟩
          case measure => simp [intOf]; omega
        · obtain rfl : j = low.length := by omega
          have p1' : decide ((low.length : Int) < (low.length : Int)) = false := decide_eq_false (by omega)
          have p2' : decide (low.length < low.length) = false := decide_eq_false (by omega)
          rw [List.take_length] at MV
          have MVL := MV.out.lt
          have hmm := @run_makeMap Try.prog
          go_wp2_with fail
          have hwb : w.heap.size ≤ wr.heap.size := MB.out.size
          have kA := (Below.refl wr.heap.size wr).alloc (Nat.le_refl _) (.map #[] 0)
          have kB := Lib.hid (kA.alloc kA.size (.cells #[.slice none 0 0, .map (some wr.heap.size), .int .i64 1] 64))
          have HPS := Lib.hid (show PoolS ((wr.alloc (.map #[] 0)).alloc (.cells #[.slice none 0 0, .map (some wr.heap.size), .int .i64 1] 64)) w.heap.size (wr.heap.size + 1) (.slice none 0 0) wr.heap.size 0 [] from
            ⟨heap_alloc2_new wr _ _, VRow.nil _ _, (VNum.made wr).grow ((Below.refl _ _).alloc (Nat.le_refl _) _), by omega, hwb, Nat.zero_le _⟩)
          have HV9 := Lib.hid (MV.out.grow kB.out)
          have HB9 := Lib.hid (MB.out.trans (kB.out.mono hwb))
          have HC9 := Lib.hid (clone_any A c low ((wr.alloc (.map #[] 0)).alloc (.cells #[.slice none 0 0, .map (some wr.heap.size), .int .i64 1] 64)) (HX.out.grow HB9.out) (by omega) HAN.out)
          obtain ⟨pb, hpb⟩ : ∃ pb, pb = wr.heap.size + 1 := ⟨_, rfl⟩
          rw [← hpb] at HPS ⊢
          generalize (wr.alloc (.map #[] 0)).alloc (.cells #[.slice none 0 0, .map (some wr.heap.size), .int .i64 1] 64) = W9 at *
          clear hmm kA kB MV hpb
          refine HC9.out.mono ?_
          rintro e w10 ⟨u1, rfl, hr10, hb10⟩
          have hs9 := HB9.out.size
          have HN10 := Lib.hid (number_any w w.heap.size pb wr.heap.size 0 (.slice none 0 0) u1 [] low w10 (HPS.out.grow hb10) (hr10.lower hs9) (fun k hk u hu e => by
            rw [List.mem_singleton] at hu
            subst hu
            cases e) (fun k hk => by cases hk) (by omega) (by simp) (by simp) (fun x hx => (HFT.out x (by simp [hx])).k))
          have HV10 := Lib.hid (HV9.out.grow hb10)
          have HB10 := Lib.hid (HB9.out.trans (hb10.mono hs9))
          clear hr10 hb10 HC9
          have hMne : M ≠ wr.heap.size := fun e => by
            have := MVL
            omega
          have HMNE := Lib.hid hMne
          clear hMne
          go_wp2_with fail
          refine HN10.out.mono ?_
          rintro e w11 ⟨u, n, rfl, hp11, hb11, hk11, hu11⟩
          have HV11 := Lib.hid (HV10.out.keptMaps hk11 HMNE.out)
          have HP11 := Lib.hid (show PoolS w11 w.heap.size pb u wr.heap.size n (sd Pv.lt low) from hp11)
          have HB11 := Lib.hid (HB10.out.trans hb11)
          have HU11 := Lib.hid hu11
          have hpl11 := hp11.lt
          clear hp11 hb11 hk11 hu11 HN10 HV10
          go_wp2_with fail
          refine (keys_any M w11).mono ?_
          rintro e w12 ⟨rfl, hw12⟩
          have kC : Below w11.heap.size w11 w12 := hw12 ▸ (Below.refl w11.heap.size w11).alloc (Nat.le_refl _) _
          have hcell : w12.cell? ⟨w11.heap.size, 0, none⟩ = some (.map (some M)) := hw12 ▸ (blk_facts (heap_alloc_new w11 (.cells #[.map (some M)] 41))).1 0
          have hlt12 : w11.heap.size < w12.heap.size := by rw [← hw12]; simp
          have hV12 := HV11.out.grow kC
          obtain ⟨D0, hown, hSI⟩ := hV12
          have hsz := hown.size_le
          have HCO := Lib.hid (collect_any 28 #[.pointer (some ⟨w11.heap.size, 0, none⟩)] (enters_of Try.func28 (by kernel_rfl) rfl) _ (Maps.size D0) (by omega) w12 (keys_gives w11.heap.size M n3 D0 _ hSI w12 hlt12 hcell hown))
          have HP12 := Lib.hid (HP11.out.grow kC)
          have HK12 := Lib.hid kC
          have HB12 := Lib.hid (HB11.out.trans (kC.mono HB11.out.size))
          clear kC hcell hown hSI hw12
          go_wp2_with fail
          refine HCO.out.mono ?_
          rintro e w13 ⟨u2, ss, rfl, hAll, hr13, hsl, hb13⟩
          have HALL := Lib.hid hAll
          have hs12 := HB12.out.size
          have HN13 := Lib.hid (number_any w w.heap.size pb wr.heap.size n u u2 (sd Pv.lt low) ss w13 (HP12.out.grow hb13) (hr13.lower hs12) (fun k hk t ht e => by
            rw [List.mem_singleton] at ht
            subst ht
            have h1 := hr13.base_le hk
            have h2 := HU11.out k e
            omega) (fun k hk t ht e => by
            rw [List.mem_singleton] at ht
            subst ht
            have h1 := hr13.base_le e
            have h2 := HU11.out k hk
            omega) (by omega) (by have := putO_fold_len low []; unfold sd; simp only [List.length_nil] at this; omega) (fun x hx hin => by
            have h1 := (hAll.2.2 x (hAll.2.1 x hx)).1 hx
            simp only [Bool.and_eq_true, decide_eq_true_eq] at h1
            exact h1.1 ((sd_mem Pv.lin _ _).1 hin)) hAll.2.1)
          have HB13 := Lib.hid (HB12.out.trans (hb13.mono hs12))
          clear hAll hr13 hb13 HCO
          go_wp2_with fail
          refine HN13.out.mono ?_
          rintro e w14 ⟨u', n', rfl, hp14, hb14, hk14, hu14⟩
          rw [rest_of HFT.out HS3.out HALL.out] at hp14
          have HP14 := Lib.hid (show PoolS w14 w.heap.size pb u' wr.heap.size n' (Pv.ord low all) from hp14)
          have HB14 := Lib.hid (HB13.out.trans hb14)
          have m2 := (blk_facts hp14.box).1 2
          have hpl14 := hp14.lt
          have hol := ord_len low all
          have hrl := room_le (Pv.ord low all)
          have hm2 : w14.cell? ⟨pb, 2, none⟩ = some (.int .i64 ((1 + ((Pv.ord low all).map Pv.room).sum : Nat) : Int)) := m2
          clear hp14 hb14 hk14 hu14 HN13 m2
          generalize ((Pv.ord low all).map Pv.room).sum = rs at hm2 hrl
          have p9 : decide ((65535 : Int) < ((1 + rs : Nat) : Int)) = false := decide_eq_false (by omega)
          go_wp2
          go_ret2
          exact ⟨.inr ⟨HE0.out, _, _, _, _, rfl, HP14.out⟩, HB14.out⟩
end Go.Proofs.Ytekcfjfkbiciaaa
