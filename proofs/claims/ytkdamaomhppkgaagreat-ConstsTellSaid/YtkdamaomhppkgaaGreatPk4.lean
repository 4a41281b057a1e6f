/- Joined texts: ROrder, Tab, Bh, BdP, PpPlain, PpWalksA, PpMapI, PpWalksB, PpWalksC, PpWalksD. -/
import Derived.Test.YtkdamaomhppkgaaGreatPk2
import Derived.Test.YtkdamaomhppkgaaGreatPk3
import Derived.Deep.LoopGhost
import Derived.Test.YtkdamaomhppkgaaGreatPk1
import Derived.Maps.OwnSet
import Derived.Deep.Cut
/- The walk of layer 19: the pool's order, by the document. -/
namespace Go.Proofs.YtkdamaomhppkgaaGreat
open Go.RowKit

/-- The first thing that is wrong. -/
def Pv.errOf : List Pv → Int
  | [] => 0
  | v :: l => if v.chk 0 9 5 = 0 then Pv.errOf l else v.chk 0 9 5
theorem Pv.errOf_zero : ∀ {l : List Pv}, Pv.errOf l = 0 → ∀ v ∈ l, v.chk 0 9 5 = 0
  | [], _, v, hv => by simp at hv
  | x :: l, h, v, hv => by
    unfold Pv.errOf at h
    split at h
    · rename_i h0
      rcases List.mem_cons.1 hv with rfl | hv
      · exact h0
      · exact Pv.errOf_zero h v hv
    · rename_i h0; exact absurd h h0
theorem Pv.errOf_drop {l : List Pv} {i : Nat} {v : Pv} (h : l[i]? = some v) : Pv.errOf (l.drop i) = if v.chk 0 9 5 = 0 then Pv.errOf (l.drop (i + 1)) else v.chk 0 9 5 := by
  obtain ⟨h3, rfl⟩ := List.getElem?_eq_some_iff.1 h
  rw [List.drop_eq_getElem_cons h3]
  rfl
theorem putO_fold_len : ∀ (l acc : List Pv), (l.foldl (putO Pv.lt) acc).length ≤ acc.length + l.length
  | [], acc => by simp
  | x :: l, acc => by
    have h1 := putO_fold_len l (putO Pv.lt acc x)
    have h2 := putO_len acc x
    rw [List.foldl_cons, List.length_cons]; omega
theorem putO_fold_snoc {l : List Pv} {i : Nat} {v : Pv} (h : l[i]? = some v) : (l.take (i + 1)).foldl (putO Pv.lt) [] = putO Pv.lt ((l.take i).foldl (putO Pv.lt) []) v := by
  obtain ⟨h1, rfl⟩ := List.getElem?_eq_some_iff.1 h
  rw [List.take_succ_eq_append_getElem h1, List.foldl_append]
  rfl
theorem slots_len_le (l : List Pv) : (Pv.slots l).length ≤ 1 + 2 * l.length := by
  rw [Pv.slots_len]
  have : (l.map Pv.room).sum ≤ 2 * l.length := by
    induction l with
    | nil => simp
    | cons x l ih =>
      have hx : x.room ≤ 2 := by unfold Pv.room; split <;> omega
      simp only [List.map_cons, List.sum_cons, List.length_cons]; omega
  omega
theorem slot_snoc {l : List Pv} {i : Nat} {v : Pv} (h : l[i]? = some v) : (l.take (i + 1)).flatMap Pv.slot = (l.take i).flatMap Pv.slot ++ v.slot := by
  obtain ⟨h1, rfl⟩ := List.getElem?_eq_some_iff.1 h
  rw [List.take_succ_eq_append_getElem h1, List.flatMap_append]
  simp
/-- The row t lies apart from these. -/
def ApartOf (t : Value) (us : List Value) : Prop := ∀ k, t.ownBlock = some k → ∀ u ∈ us, u.ownBlock ≠ some k
theorem ApartOf.hop {t t' : Value} {us : List Value} {x x' : World} (h : ApartOf t us) (hp : Hop x x' t.ownBlock t'.ownBlock) (hl : ∀ u ∈ us, ∀ k, u.ownBlock = some k → k < x.heap.size) : ApartOf t' us := by
  intro k hk u hu e
  rcases hp.2 with h2 | ⟨g, hg, h2⟩
  · exact h k (h2 ▸ hk) u hu e
  · rw [h2] at hk
    cases hk
    have := hl u hu k e
    omega
theorem VRow.hop {x x' : World} {base : Nat} {t t' u : Value} {us : List Value} {xs : List Pv} (h : VRow x base u xs) (hp : Hop x x' t.ownBlock t'.ownBlock) (ha : ApartOf t us) (hu : u ∈ us) : VRow x' base u xs :=
  h.kept hp.1 fun k hk e => ha k e u hu hk
theorem VRow.lt {x : World} {base : Nat} {u : Value} {xs : List Pv} (h : VRow x base u xs) {k : Nat} (hk : u.ownBlock = some k) : k < x.heap.size := (World.ownsRow.lt h k hk).2
theorem VRow.vals {x : World} {base : Nat} {A : Option Addr} {n c : Nat} {xs : List Pv} (h : VRow x base (.slice A n c) xs) : Vals x A c xs := by
  obtain ⟨A', c', e, hv, _⟩ := h.reads
  cases e
  exact hv
theorem lacks_snoc {F R l : List Pv} {i : Nat} {x : Pv} (h : l[i]? = some x) : lacks F R (l.take (i + 1)) = lacks F R (l.take i) ++ (if x ∉ F ∧ x ∉ R then [x] else []) := by
  obtain ⟨h1, rfl⟩ := List.getElem?_eq_some_iff.1 h
  rw [List.take_succ_eq_append_getElem h1]
  unfold lacks
  rw [List.filter_append, List.filter_cons, List.filter_nil]
  simp only [Bool.and_eq_true, decide_eq_true_eq]
/-- Between two rounds. -/
def OrdSt (low all F : List Pv) (w : World) (u9 u10 u13 : Value) (g : Nat) (x : World) : Prop :=
  ∃ R T, wts T ≤ g ∧ wts T + R.length ≤ 14000 ∧ Todo low all F R T ∧ VRow x w.heap.size u9 F ∧ VRow x w.heap.size u10 R ∧ VOff x w.heap.size u13 T ∧ ApartOf u13 [u9, u10] ∧ Below w.heap.size w x
/-- What the call comes to. -/
def OrderOk (low all : List Pv) (w : World) (e : Ending) (w' : World) : Prop :=
  ∃ u l, e = .returned (.tuple #[u, .int .i64 (Pv.errOf (low ++ all))]) ∧ VRow w' w.heap.size u l ∧ (Pv.errOf (low ++ all) = 0 ∧ l = Pv.slots (Pv.ord low all) ∨ Pv.errOf (low ++ all) ≠ 0 ∧ l = []) ∧ Below w.heap.size w w'
set_option maxHeartbeats 8000000 in
set_option maxRecDepth 100000 in
theorem order_any (A B : Option Addr) (c d : Nat) (low all : List Pv) (w : World) (hx : Vals w A c low) (hy : Vals w B d all) (hn : low.length ≤ 1000) (hm : all.length ≤ 1000) :
    Calls Tryz.prog 19 #[.slice A low.length c, .slice B all.length d] w (OrderOk low all w) := by
  have HX := Lib.hid hx
  have HY := Lib.hid hy
  clear hx hy
  go_enter Tryz.func19, Tryz.ntmps19
  go_wp2_with (first
    | (at_builtin; refine wpList_appV rfl _ _ rfl w.heap.size (.slice (some ⟨_, 0, none⟩) 0 0) [] rfl (fresh0 (heap_alloc_new _ _) (Nat.le_refl _)) _ low rfl (HX.out.src ((Below.refl _ _).alloc (Nat.le_refl _) _)) (by simp; omega) (by simp) ?_; intro v1 w1 hr1 hp1
       have hb1 : Below w.heap.size w w1 := Below.trans ((Below.refl _ _).alloc (Nat.le_refl _) _) (hp1.below (by simp) (fun k hk => by cases hk; simp))
       have HB1 := Lib.hid hb1; clear hb1)
    | (at_builtin; refine wpList_appV rfl _ _ rfl w.heap.size _ ([] ++ low) rfl hr1 _ all rfl (HY.out.src HB1.out) (by simp; omega) HB1.out.size ?_; intro v2 w2 hr2 hp2
       have hb2 : Below w.heap.size w w2 := HB1.out.trans (hp2.below HB1.out.size (fun k hk => hr1.base_le hk))
       obtain ⟨A2, c2, rfl, hV2, hA2⟩ := hr2.reads; clear hA2
       rw [List.nil_append] at hV2 ⊢
       have HV2 := Lib.hid hV2; have HB2 := Lib.hid hb2; clear hb2 hV2 hp2 hr2 hr1 hp1 HB1))
  have HL := Lib.hid (show (low ++ all).length = low.length + all.length from List.length_append)
  go_loopw [26] (fun t wr => ∃ i : Nat, i ≤ low.length + all.length ∧ t = .int .i64 i ∧ Pv.errOf ((low ++ all).drop i) = Pv.errOf (low ++ all) ∧ Below w2.heap.size w2 wr) (fun t _ => low.length + all.length - (intOf t).toNat)
  case atStart => exact ⟨0, Nat.zero_le _, rfl, rfl, Below.refl _ _⟩
  case round =>
    obtain ⟨i, hil, rfl, herr, hB⟩ := hrel
    have HB := Lib.hid hB
    have HE := Lib.hid herr
    have HW := Lib.hid (HB2.out.trans (hB.mono HB2.out.size))
    clear hB herr
    by_cases hi : i < low.length + all.length
    · obtain ⟨g, o, v, rfl, hg, hv, c0, c1, c2', c3, c4, c5⟩ := (HV2.out.grow HB.out).at_ (i := i) (by rw [HL.out]; exact hi)
      have p1 : decide ((i : Int) < (low.length : Int) + (all.length : Int)) = true := decide_eq_true (by omega)
      have p2 : decide (i < low.length + all.length) = true := decide_eq_true hi
      have he := Pv.errOf_drop hv
      have k1 := Lib.hid ((Below.refl wr.heap.size wr).alloc (Nat.le_refl _) (.cells #[.int .i64 v.tag, .string (bs v.text), .int .u64 v.bits, .string (bs v.cls), .string (bs v.name), .string (bs v.desc)] 36))
      have q1 := Lib.hid (vbox_new wr v)
      have HR := Lib.hid (fun w => rcheck_any v w)
      unfold vv at HR
      obtain ⟨ck, hck⟩ : ∃ ck, ck = v.chk 0 9 5 := ⟨_, rfl⟩
      rw [← hck] at HR he
      clear hck hv
      by_cases h0 : ck = 0
      · subst h0
        rw [if_pos rfl] at he
        have HE1 := Lib.hid (he.symm.trans HE.out)
        clear he
        go_wp2_with fail
        generalize wr.alloc (.cells #[.int .i64 v.tag, .string (bs v.text), .int .u64 v.bits, .string (bs v.cls), .string (bs v.name), .string (bs v.desc)] 36) = W at k1 q1 ⊢
        refine (HR.out _).mono ?_
        rintro e w' ⟨rfl, hb⟩
        have HB1 := Lib.hid (HB.out.trans ((k1.out.trans (hb.mono k1.out.size)).mono HB.out.size))
        clear hb
        go_wp2
        go_roundw
        case rel => exact ⟨i + 1, by omega, by go_num, HE1.out, HB1.out⟩
        case measure => simp [intOf]; omega
      · have p3 : (ck != 0) = true := by simpa using h0
        rw [if_neg h0] at he
        have HE1 := Lib.hid (HE.out.symm.trans he)
        have H0 := Lib.hid h0
        clear he h0
        go_wp2_with fail
        generalize wr.alloc (.cells #[.int .i64 v.tag, .string (bs v.text), .int .u64 v.bits, .string (bs v.cls), .string (bs v.name), .string (bs v.desc)] 36) = W at k1 q1 ⊢
        refine (HR.out _).mono ?_
        rintro e w' ⟨rfl, hb⟩
        have HB1 := Lib.hid (HW.out.trans ((k1.out.trans (hb.mono k1.out.size)).mono HW.out.size))
        clear hb
        go_wp2
        go_ret2
        exact ⟨_, [], by rw [HE1.out]; rfl, VRow.nil _ _, .inr ⟨by rw [HE1.out]; exact H0.out, rfl⟩, HB1.out⟩
    · have p1 : decide ((i : Int) < (low.length : Int) + (all.length : Int)) = false := decide_eq_false (by omega)
      have HE0 := Lib.hid (show Pv.errOf (low ++ all) = 0 by
        have e : i = (low ++ all).length := by rw [HL.out]; omega
        rw [← HE.out, e, List.drop_length]; rfl)
      clear HE
      go_wp2_with fail
      go_loopw [9, 38] (fun u t wx => ∃ i : Nat, i ≤ low.length ∧ t = .int .i64 i ∧ VRow wx w.heap.size u ((low.take i).foldl (putO Pv.lt) []) ∧ Below w.heap.size w wx) (fun _ t _ => low.length - (intOf t).toNat)
      case atStart => exact ⟨0, Nat.zero_le _, rfl, by simpa using VRow.nil _ _, HW.out⟩
      case round =>
        obtain ⟨i, hil, rfl, hrow, hB⟩ := hrel
        have HB3 := Lib.hid hB
        have HO := Lib.hid hrow
        by_cases hi : i < low.length
        · obtain ⟨g, o, v, rfl, hg, hv, c0, c1, c2', c3, c4, c5⟩ := (HX.out.grow HB3.out).at_ hi
          have p1 : decide ((i : Int) < (low.length : Int)) = true := decide_eq_true (by omega)
          have p2 : decide (i < low.length) = true := decide_eq_true hi
          have hfl := putO_fold_len (low.take i) []
          rw [List.length_take, List.length_nil] at hfl
          have HF := Lib.hid (putO_fold_snoc hv)
          have hp := put_any w.heap.size u9 ((low.take i).foldl (putO Pv.lt) []) v
          unfold vv at hp
          have HP := Lib.hid hp
          clear hp hrow hB hv
          have k1 := Lib.hid ((Below.refl wr.heap.size wr).alloc (Nat.le_refl _) (.cells #[.int .i64 v.tag, .string (bs v.text), .int .u64 v.bits, .string (bs v.cls), .string (bs v.name), .string (bs v.desc)] 36))
          go_wp2_with fail
          refine (HP.out _ (HO.out.grow k1.out) (by omega) (Nat.le_trans HB3.out.size k1.out.size)).mono ?_
          rintro e w' ⟨u', rfl, _, hr, hb⟩
          rw [← HF.out] at hr
          have HR1 := Lib.hid hr
          have HC := Lib.hid (HB3.out.trans ((k1.out.trans (hb.mono k1.out.size)).mono HB3.out.size))
          clear hb hr
          go_wp2
          go_roundw
          case rel => exact ⟨i + 1, by omega, by go_num, HR1.out, HC.out⟩
          case measure => simp [intOf]; omega
        · obtain rfl : i = low.length := by omega
          have p1 : decide ((low.length : Int) < (low.length : Int)) = false := decide_eq_false (by omega)
          have p2 : decide (low.length < low.length) = false := decide_eq_false (by omega)
          rw [List.take_length] at hrow
          have HF := Lib.hid (show VRow wr w.heap.size u9 (sd Pv.lt low) from hrow)
          have hfl := putO_fold_len low []
          rw [List.length_nil, Nat.zero_add, show low.foldl (putO Pv.lt) [] = sd Pv.lt low from rfl] at hfl
          replace hrow : VRow wr w.heap.size u9 (sd Pv.lt low) := hrow
          obtain ⟨A9, c9, rfl, hV9, hA9⟩ := hrow.reads
          have HV9 := Lib.hid hV9
          clear hA9 hV9 hrow hB HO
          generalize hS : sd Pv.lt low = F at *
          have HS := Lib.hid hS
          clear hS
          go_wp2_with (first
            | (at_builtin; refine wpList_appV rfl _ _ rfl wr.heap.size (.slice (some ⟨_, 0, none⟩) 0 0) [] rfl (fresh0 (heap_alloc_new _ _) (Nat.le_refl _)) _ F rfl (HV9.out.src ((Below.refl _ _).alloc (Nat.le_refl _) _)) (by simp; omega) (by simp) ?_; intro v3 w3 hr3 hp3
               have hb3 : Below wr.heap.size wr w3 := Below.trans ((Below.refl _ _).alloc (Nat.le_refl _) _) (hp3.below (by simp) (fun k hk => by cases hk; simp))
               have HB4 := Lib.hid hb3; clear hb3)
            | (at_builtin; refine wpList_appV rfl _ _ rfl wr.heap.size _ ([] ++ F) rfl hr3 _ all rfl (HY.out.src (Below.trans HB3.out (HB4.out.mono HB3.out.size))) (by simp; omega) HB4.out.size ?_; intro v4 w4 hr4 hp4
               have hb4 : Below wr.heap.size wr w4 := HB4.out.trans (hp4.below HB4.out.size (fun k hk => hr3.base_le hk))
               rw [List.nil_append] at hr4
               have HR4 := Lib.hid hr4; have HB5 := Lib.hid hb4; clear hb4 hp4 hr4 hr3 hp3 HB4))
          clear HV9
          have HB6 := Lib.hid (HB3.out.trans (HB5.out.mono HB3.out.size))
          have HST := Lib.hid (show OrdSt low all F w (.slice A9 F.length c9) (.slice none 0 0) v4 14000 w4 from
            ⟨[], F ++ all, by have := wts_le (F ++ all); rw [List.length_append] at this; omega, by have := wts_le (F ++ all); rw [List.length_append] at this; simp; omega,
             Todo.begin (fun x => by rw [← HS.out]; exact sd_mem Pv.lin _ _), HF.out.grow HB5.out, VRow.nil _ _, (VOff.of HR4.out).lower HB3.out.size, fun k hk u hu => by
               simp only [List.mem_cons, List.not_mem_nil, or_false] at hu
               rcases hu with rfl | rfl
               · intro e
                 have h1 := HR4.out.base_le hk
                 have h2 := HF.out.lt e
                 omega
               · simp [Value.ownBlock], HB6.out⟩)
          clear HF HR4 HB5 HB6 HB3
          go_loopg [10, 13] 14000 (fun g u t wx => OrdSt low all F w (.slice A9 F.length c9) u t g wx)
          case atStart => exact HST.out
          case round =>
            clear HST
            obtain ⟨R, T, hg, hlen, hT, h9, h10, h13, hap, hB⟩ := hrel
            have HB := Lib.hid hB
            have HT := Lib.hid hT
            have H9 := Lib.hid h9
            have H10 := Lib.hid h10
            have H13 := Lib.hid h13
            have HAP := Lib.hid hap
            clear hT h9 h10 h13 hap hB
            cases T with
            | nil =>
              obtain ⟨A13, c13, rfl, hV13⟩ := H13.out.reads
              obtain ⟨A10, c10, rfl, hV10, hA10⟩ := H10.out.reads
              have HV10 := Lib.hid hV10
              have HORD := Lib.hid (show F ++ R = Pv.ord low all by rw [HT.out.fin, ← HS.out]; rfl)
              clear hV13 hV10 hA10 H10 HAP H13
              have hrl : R.length ≤ 14000 := by omega
              have p0 : decide ((0 : Int) < ((0 : Nat) : Int)) = false := rfl
              simp only [List.length_nil]
              have k1 := Lib.hid ((Below.refl wr.heap.size wr).alloc (Nat.le_refl _) (.cells #[.int .i64 0, .string ⟨#[]⟩, .int .u64 0, .string ⟨#[]⟩, .string ⟨#[]⟩, .string ⟨#[]⟩] 36))
              have hLl : (Pv.ord low all).length ≤ 15000 := by rw [← HORD.out, List.length_append]; omega
              obtain ⟨L, hL⟩ : ∃ L, L = Pv.ord low all := ⟨_, rfl⟩
              rw [← hL] at HORD hLl
              have HLE := Lib.hid hL
              clear hL
              go_wp2_with (at_builtin; refine wpList_appV rfl _ _ rfl w.heap.size (.slice A9 F.length c9) F rfl (H9.out.grow k1.out) _ R rfl (HV10.out.src k1.out) (by omega) (Nat.le_trans HB.out.size k1.out.size) ?_; intro v5 x5 hr5 hp5; rw [HORD.out] at hr5; obtain ⟨A5, c5, rfl, hV5, hA5⟩ := hr5.reads; clear hV5 hA5)
              have K5 := Lib.hid hr5
              have R17 := Lib.hid (VRow.kept (xs := [Pv.zero]) (vrow_of_block (base := w.heap.size) (heap_alloc_new wr (.cells #[.int .i64 0, .string ⟨#[]⟩, .int .u64 0, .string ⟨#[]⟩, .string ⟨#[]⟩, .string ⟨#[]⟩] 36)) HB.out.size [Pv.zero] rfl rfl (by simp)) hp5.1 (fun k hk e => by
                cases hk
                exact Nat.lt_irrefl _ (show wr.heap.size < wr.heap.size from H9.out.lt e)))
              have AP := Lib.hid (show ApartOf (.slice (some ⟨wr.heap.size, 0, none⟩) 1 1) [.slice A5 L.length c5] from fun k hk u hu => by
                cases hk
                simp only [List.mem_cons, List.not_mem_nil, or_false] at hu
                subst hu
                intro e
                rcases hp5.2 with h2 | ⟨g5, hg5, h2⟩
                · rw [h2] at e
                  exact Nat.lt_irrefl _ (show wr.heap.size < wr.heap.size from H9.out.lt e)
                · rw [h2] at e
                  obtain rfl : g5 = wr.heap.size := Option.some.inj e
                  rw [World.size_alloc] at hg5
                  exact Nat.not_succ_le_self _ hg5)
              have SB := Lib.hid ((HB.out.trans (k1.out.mono HB.out.size)).trans (hp5.below (Nat.le_trans HB.out.size k1.out.size) (fun k hk => H9.out.base_le hk)))
              clear hr5 hp5
              have HST := Lib.hid (show ∃ i : Nat, i ≤ L.length ∧ (Value.int .i64 0) = .int .i64 i ∧ VRow x5 w.heap.size (.slice (some ⟨wr.heap.size, 0, none⟩) 1 1) (Pv.zero :: (L.take i).flatMap Pv.slot) ∧ ApartOf (.slice (some ⟨wr.heap.size, 0, none⟩) 1 1) [.slice A5 L.length c5] ∧ VRow x5 w.heap.size (.slice A5 L.length c5) L ∧ Below w.heap.size w x5 from
                ⟨0, Nat.zero_le _, rfl, by simpa using R17.out, AP.out, K5.out, SB.out⟩)
              clear R17 AP K5 SB k1
              obtain ⟨wq, rfl⟩ : ∃ wq, wq = wr := ⟨_, rfl⟩
              go_loopw [17, 107] (fun t u wx => ∃ i : Nat, i ≤ L.length ∧ u = .int .i64 i ∧ VRow wx w.heap.size t (Pv.zero :: (L.take i).flatMap Pv.slot) ∧ ApartOf t [.slice A5 L.length c5] ∧ VRow wx w.heap.size (.slice A5 L.length c5) L ∧ Below w.heap.size w wx) (fun _ u _ => L.length - (intOf u).toNat)
              case atStart => exact HST.out
              case round =>
                obtain ⟨j, hjl, rfl, ht, hap, h5, hB⟩ := hrel
                have M17 := Lib.hid ht
                have MAP := Lib.hid hap
                have M5 := Lib.hid h5
                have MB := Lib.hid hB
                clear ht hap h5 hB HST
                by_cases hj : j < L.length
                · obtain ⟨g2, o2, v, e5, hg2, hx, e0, e1, e2, e3, e4, e5'⟩ := M5.out.vals.at_ hj
                  subst e5
                  have p1 : decide ((j : Int) < (L.length : Int)) = true := decide_eq_true (by omega)
                  have p2 : decide (j < L.length) = true := decide_eq_true hj
                  have HSL := Lib.hid (slot_snoc hx)
                  have k1 := Lib.hid ((Below.refl wr.heap.size wr).alloc (Nat.le_refl _) (.cells #[.int .i64 v.tag, .string (bs v.text), .int .u64 v.bits, .string (bs v.cls), .string (bs v.name), .string (bs v.desc)] 36))
                  have k2 := Lib.hid (k1.out.alloc k1.out.size (.cells #[.int .i64 v.tag, .string (bs v.text), .int .u64 v.bits, .string (bs v.cls), .string (bs v.name), .string (bs v.desc)] 36))
                  have q1 := Lib.hid ((vbox_new wr v).keep ((Below.refl _ _).alloc (Nat.le_refl _) (.cells #[.int .i64 v.tag, .string (bs v.text), .int .u64 v.bits, .string (bs v.cls), .string (bs v.name), .string (bs v.desc)] 36)) (vbox_new wr v).lt)
                  have hfl := slots_len_le (L.take j)
                  rw [List.length_take] at hfl
                  have hfl2 : (Pv.zero :: (L.take j).flatMap Pv.slot).length ≤ 30001 := Nat.le_trans hfl (by omega)
                  have hbw : w.heap.size ≤ wr.heap.size := MB.out.size
                  clear hx hfl
                  generalize hOut : Pv.zero :: (L.take j).flatMap Pv.slot = O at *
                  have HOU := Lib.hid hOut
                  clear hOut
                  have hwide : (v.wide = true ∧ ((v.tag == 5) = true ∨ (v.tag == 5) = false ∧ (v.tag == 6) = true)) ∨ (v.wide = false ∧ (v.tag == 5) = false ∧ (v.tag == 6) = false) := by
                    unfold Pv.wide
                    cases v.tag == 5 <;> cases v.tag == 6 <;> simp
                  rcases hwide with ⟨hw, ht⟩ | ⟨hw, t5, t6⟩
                  · have HSL2 := Lib.hid (show Pv.zero :: (L.take (j + 1)).flatMap Pv.slot = O ++ [v] ++ [v] by
                      rw [HSL.out, ← HOU.out]; unfold Pv.slot; rw [if_pos hw]; simp)
                    clear hw
                    have more : ∀ (x6 x7 : World) (v6 v7 : Value), Hid (VRow x6 w.heap.size v6 (O ++ [v])) → Hid (VRow x6 w.heap.size (.slice (some ⟨g2, o2, none⟩) L.length c5) L) → Hid (ApartOf v6 [.slice (some ⟨g2, o2, none⟩) L.length c5]) → Hid (Below w.heap.size w x6) →
                        VRow x7 w.heap.size v7 (O ++ [v] ++ [v]) → Hop (x6.alloc (.cells #[.int .i64 v.tag, .string (bs v.text), .int .u64 v.bits, .string (bs v.cls), .string (bs v.name), .string (bs v.desc)] 36)) x7 v6.ownBlock v7.ownBlock →
                        Hid (VRow x7 w.heap.size (.slice (some ⟨g2, o2, none⟩) L.length c5) L) ∧ Hid (ApartOf v7 [.slice (some ⟨g2, o2, none⟩) L.length c5]) ∧ Hid (Below w.heap.size w x7) := by
                      intro x6 x7 v6 v7 h1 h2 h3 h4 h5 h6
                      have ka := (Below.refl x6.heap.size x6).alloc (Nat.le_refl _) (.cells #[.int .i64 v.tag, .string (bs v.text), .int .u64 v.bits, .string (bs v.cls), .string (bs v.name), .string (bs v.desc)] 36)
                      refine ⟨Lib.hid ((h2.out.grow ka).hop h6 h3.out (by simp)), Lib.hid (h3.out.hop h6 (fun u hu k e => by
                        simp only [List.mem_cons, List.not_mem_nil, or_false] at hu
                        subst hu
                        exact (h2.out.grow ka).lt e)), Lib.hid ((h4.out.trans (ka.mono h4.out.size)).trans (h6.below (Nat.le_trans h4.out.size ka.size) (fun k hk => h1.out.base_le hk)))⟩
                    rcases ht with t5 | ⟨t5, t6⟩ <;>
                    · go_wp2_with (first
                        | (at_builtin; refine wpList_appV rfl _ _ rfl w.heap.size u17 O rfl (M17.out.grow k2.out) _ [v] rfl (src_val (heap_alloc2_new wr _ _) 1) (by simp; omega) (by simp; omega) ?_; intro v6 x6 hr6 hp6; have q2 : VBox x6 wr.heap.size v := (hp6.1.block _ (by simp; omega) (fun e => Nat.lt_irrefl _ (M17.out.lt e.symm))).trans q1.out; obtain ⟨d0, d1, d2, d3, d4, d5⟩ := q2.at_; have hqs := q2.lt; have N17 := Lib.hid hr6; have S5 := Lib.hid ((M5.out.grow k2.out).hop hp6 MAP.out (by simp)); have SAP := Lib.hid (MAP.out.hop hp6 (fun u hu k e => by (simp only [List.mem_cons, List.not_mem_nil, or_false] at hu; subst hu; exact (M5.out.grow k2.out).lt e))); have SB := Lib.hid ((MB.out.trans (k2.out.mono MB.out.size)).trans (hp6.below (Nat.le_trans MB.out.size k2.out.size) (fun k hk => M17.out.base_le hk))); clear hr6 hp6 q2)
                        | (at_builtin; refine wpList_appV rfl _ _ rfl w.heap.size v6 (O ++ [v]) rfl (N17.out.grow ((Below.refl _ _).alloc (Nat.le_refl _) _)) _ [v] rfl (src_val (heap_alloc_new _ _) 1) (by simp; omega) (by have := SB.out.size; simp; omega) ?_; intro v7 x7 hr7 hp7))
                      obtain ⟨z1, z2, z3⟩ := more _ _ _ _ N17 S5 SAP SB hr7 hp7
                      have Z17 := Lib.hid hr7
                      clear hr7 hp7 more
                      go_roundw
                      case rel => exact ⟨j + 1, by omega, by go_num, by rw [HSL2.out]; exact Z17.out, z2.out, z1.out, z3.out⟩
                      case measure => simp [intOf]; omega
                  · have HSL2 := Lib.hid (show Pv.zero :: (L.take (j + 1)).flatMap Pv.slot = O ++ [v] by
                      rw [HSL.out, ← HOU.out]; unfold Pv.slot; rw [hw]; simp)
                    clear hw
                    go_wp2_with (at_builtin; refine wpList_appV rfl _ _ rfl w.heap.size u17 O rfl (M17.out.grow k2.out) _ [v] rfl (src_val (heap_alloc2_new wr _ _) 1) (by simp; omega) (by simp; omega) ?_; intro v6 x6 hr6 hp6; have q2 : VBox x6 wr.heap.size v := (hp6.1.block _ (by simp; omega) (fun e => Nat.lt_irrefl _ (M17.out.lt e.symm))).trans q1.out; obtain ⟨d0, d1, d2, d3, d4, d5⟩ := q2.at_; have hqs := q2.lt; have N17 := Lib.hid hr6; have S5 := Lib.hid ((M5.out.grow k2.out).hop hp6 MAP.out (by simp)); have SAP := Lib.hid (MAP.out.hop hp6 (fun u hu k e => by (simp only [List.mem_cons, List.not_mem_nil, or_false] at hu; subst hu; exact (M5.out.grow k2.out).lt e))); have SB := Lib.hid ((MB.out.trans (k2.out.mono MB.out.size)).trans (hp6.below (Nat.le_trans MB.out.size k2.out.size) (fun k hk => M17.out.base_le hk))); clear hr6 hp6 q2)
                    go_roundw
                    case rel => exact ⟨j + 1, by omega, by go_num, by rw [HSL2.out]; exact N17.out, SAP.out, S5.out, SB.out⟩
                    case measure => simp [intOf]; omega
                · obtain rfl : j = L.length := by omega
                  have p1 : decide ((L.length : Int) < (L.length : Int)) = false := decide_eq_false (by omega)
                  have p2 : decide (L.length < L.length) = false := decide_eq_false (by omega)
                  rw [List.take_length] at M17
                  have hsl := slots_len_le L
                  have M : Hid (VRow wr w.heap.size u17 (Pv.slots L)) := M17
                  obtain ⟨A17, c17, rfl, hV17, hA17⟩ := M.out.reads
                  clear hV17 hA17 M17
                  generalize hSS : Pv.slots L = S at *
                  have HSS := Lib.hid hSS.symm
                  clear hSS
                  have p3 : decide ((65535 : Int) < (S.length : Int)) = false := decide_eq_false (by omega)
                  go_wp2
                  go_ret2
                  exact ⟨_, S, by rw [HE0.out]; rfl, M.out, .inl ⟨HE0.out, by rw [← HLE.out]; exact HSS.out⟩, MB.out⟩
            | cons v T =>
              obtain ⟨g, o, c', rfl, hbg, hgl, hc', hva, hnx⟩ := H13.out.next
              obtain ⟨c0, c1, c2', c3, c4, c5⟩ := hva
              obtain ⟨P, hP⟩ : ∃ P : Addr, (if c' = 1 then (⟨g, o, none⟩ : Addr) else ⟨g, o + 6, none⟩) = P := ⟨_, rfl⟩
              have hPb : P.block = g := by rw [← hP]; split <;> rfl
              rw [hP] at hnx
              have HN := Lib.hid hnx
              have HPB := Lib.hid hPb
              clear hnx hPb
              obtain ⟨A10, c10, rfl, hV10, hA10⟩ := H10.out.reads
              obtain ⟨A9', c9', e9, hV9, hA9⟩ := H9.out.reads
              cases e9
              have HV10 := Lib.hid hV10
              have HV9 := Lib.hid hV9
              clear hV10 hV9 hA9 hA10
              have HH9 := Lib.hid (fun x w h => has_any A9 c9 F x w h (by omega))
              have HH10 := Lib.hid (fun x w h => has_any A10 c10 R x w h (by omega))
              have HND := Lib.hid (fun x w => rneeds_any x w)
              unfold vv at HH9 HH10 HND
              have k1 := Lib.hid ((Below.refl wr.heap.size wr).alloc (Nat.le_refl _) (.cells #[.int .i64 v.tag, .string (bs v.text), .int .u64 v.bits, .string (bs v.cls), .string (bs v.name), .string (bs v.desc)] 36))
              have q1 := Lib.hid (vbox_new wr v)
              have HG := Lib.hid (HAP.out g rfl)
              clear HAP H13
              go_wp2_with fail
              rename_i h
              have h13 : VOff wr w.heap.size (.slice (some ⟨g, o, none⟩) T.length 0) T := by
                have := HN.out
                rw [← hP, if_pos h, h] at this; exact this
              have HN13 := Lib.hid h13
              have HB13 := Lib.hid (show (Value.slice (some ⟨g, o, none⟩) T.length 0).ownBlock = some g from rfl)
              clear h13 h HN hP HPB
              generalize Value.slice (some ⟨g, o, none⟩) T.length 0 = t13 at *
              rotate_left
              rename_i h
              have h13 : VOff wr w.heap.size (.slice (some ⟨g, o + 6, none⟩) T.length (c' - 1)) T := by
                have := HN.out
                rw [← hP, if_neg h] at this; exact this
              have HN13 := Lib.hid h13
              have HB13 := Lib.hid (show (Value.slice (some ⟨g, o + 6, none⟩) T.length (c' - 1)).ownBlock = some g from rfl)
              clear h13 h HN hP HPB
              generalize Value.slice (some ⟨g, o + 6, none⟩) T.length (c' - 1) = t13 at *
              all_goals
                generalize wr.alloc (.cells #[.int .i64 v.tag, .string (bs v.text), .int .u64 v.bits, .string (bs v.cls), .string (bs v.name), .string (bs v.desc)] 36) = W at k1 q1 ⊢
                refine (HH9.out v W (HV9.out.grow k1.out)).mono ?_
                rintro e x1 ⟨rfl, hb1⟩
                have J1 := Lib.hid (k1.out.trans (hb1.mono k1.out.size))
                have q2 := Lib.hid (q1.out.keep hb1 q1.out.lt)
                clear hb1 k1 q1
                have hTl := wts_len T
                have hwv := wt_pos v
                rw [wts_cons] at hg hlen
                by_cases hvF : v ∈ F
                · have hd : decide (v ∈ F) = true := decide_eq_true hvF
                  have HVF := Lib.hid hvF
                  rw [hd]
                  clear hd hvF
                  obtain ⟨d0, d1, d2, d3, d4, d5⟩ := q2.out.at_
                  go_wp2_with fail
                  refine (HH9.out v x1 (HV9.out.grow J1.out)).mono ?_
                  rintro e x2 ⟨rfl, hb2⟩
                  have hd : decide (v ∈ F) = true := decide_eq_true HVF.out
                  rw [hd]
                  have q3 := Lib.hid (q2.out.keep hb2 q2.out.lt)
                  have J2 := Lib.hid (J1.out.trans (hb2.mono J1.out.size))
                  clear hb2 hd d0 d1 d2 d3 d4 d5 q2
                  obtain ⟨d0, d1, d2, d3, d4, d5⟩ := q3.out.at_
                  go_wp2_with fail
                  refine (HND.out v x2).mono ?_
                  rintro e x3 ⟨u80, rfl, hr80, hb3⟩
                  have J3 := Lib.hid (J2.out.trans (hb3.mono J2.out.size))
                  obtain ⟨A80, c80, rfl, hV80, hA80⟩ := hr80.reads
                  have H80 := Lib.hid hr80
                  clear hb3 hr80 hV80 hA80 d0 d1 d2 d3 d4 d5
                  go_wp2_with fail
                  have HST := Lib.hid (show ∃ i : Nat, i ≤ v.needs.length ∧ (Value.int .i64 0) = .int .i64 i ∧ VOff x3 w.heap.size t13 (T ++ lacks F R (v.needs.take i)) ∧ ApartOf t13 [.slice A9 F.length c9, .slice A10 R.length c10, .slice A80 v.needs.length c80] ∧
                      VRow x3 w.heap.size (.slice A9 F.length c9) F ∧ VRow x3 w.heap.size (.slice A10 R.length c10) R ∧ VRow x3 w.heap.size (.slice A80 v.needs.length c80) v.needs ∧ Below w.heap.size w x3 from by
                    refine ⟨0, Nat.zero_le _, rfl, by simpa [lacks] using HN13.out.grow J3.out, fun k hk u hu => ?_, H9.out.grow J3.out, H10.out.grow J3.out, H80.out.lower (Nat.le_trans HB.out.size J2.out.size), HB.out.trans (J3.out.mono HB.out.size)⟩
                    rw [HB13.out] at hk
                    cases hk
                    simp only [List.mem_cons, List.not_mem_nil, or_false] at hu
                    rcases hu with rfl | rfl | rfl
                    · exact HG.out _ (by simp)
                    · exact HG.out _ (by simp)
                    · intro e
                      have h1 := H80.out.base_le e
                      have h2 := J2.out.size
                      omega)
                  clear H80 J3 J2 J1 HN13 HB13 q3
                  obtain ⟨wq, rfl⟩ : ∃ wq, wq = wr := ⟨_, rfl⟩
                  go_loopw [13, 82] (fun t u wx => ∃ i : Nat, i ≤ v.needs.length ∧ u = .int .i64 i ∧ VOff wx w.heap.size t (T ++ lacks F R (v.needs.take i)) ∧ ApartOf t [.slice A9 F.length c9, .slice A10 R.length c10, .slice A80 v.needs.length c80] ∧
                      VRow wx w.heap.size (.slice A9 F.length c9) F ∧ VRow wx w.heap.size (.slice A10 R.length c10) R ∧ VRow wx w.heap.size (.slice A80 v.needs.length c80) v.needs ∧ Below w.heap.size w wx) (fun _ u _ => v.needs.length - (intOf u).toNat)
                  case atStart => exact HST.out
                  case round =>
                    obtain ⟨j, hjl, rfl, ht, hap, h9, h10, h80, hB⟩ := hrel
                    have M13 := Lib.hid ht
                    have MAP := Lib.hid hap
                    have M9 := Lib.hid h9
                    have M10 := Lib.hid h10
                    have M80 := Lib.hid h80
                    have MB := Lib.hid hB
                    clear ht hap h9 h10 h80 hB HST
                    have hnl := v.needs_len
                    by_cases hj : j < v.needs.length
                    · obtain ⟨g2, o2, x, e80, hg2, hx, e0, e1, e2, e3, e4, e5⟩ := M80.out.vals.at_ hj
                      subst e80
                      have p1 : decide ((j : Int) < (v.needs.length : Int)) = true := decide_eq_true (by omega)
                      have p2 : decide (j < v.needs.length) = true := decide_eq_true hj
                      have HLS := Lib.hid (lacks_snoc (F := F) (R := R) hx)
                      have k1 := Lib.hid ((Below.refl wr.heap.size wr).alloc (Nat.le_refl _) (.cells #[.int .i64 x.tag, .string (bs x.text), .int .u64 x.bits, .string (bs x.cls), .string (bs x.name), .string (bs x.desc)] 36))
                      have q1 := Lib.hid (vbox_new wr x)
                      clear hx
                      go_wp2_with fail
                      generalize wr.alloc (.cells #[.int .i64 x.tag, .string (bs x.text), .int .u64 x.bits, .string (bs x.cls), .string (bs x.name), .string (bs x.desc)] 36) = W at k1 q1 ⊢
                      refine (HH9.out x W (M9.out.vals.grow k1.out)).mono ?_
                      rintro e y1 ⟨rfl, hb1⟩
                      have J1 := Lib.hid (k1.out.trans (hb1.mono k1.out.size))
                      have q2 := Lib.hid (q1.out.keep hb1 q1.out.lt)
                      clear hb1 k1 q1 e0 e1 e2 e3 e4 e5
                      have hqs := q2.out.lt
                      by_cases hxF : x ∈ F
                      · have hd : decide (x ∈ F) = true := decide_eq_true hxF
                        have HLS2 := Lib.hid (HLS.out.trans (by rw [if_neg (fun h => h.1 hxF), List.append_nil]))
                        rw [hd]
                        clear hd hxF
                        obtain ⟨d0, d1, d2, d3, d4, d5⟩ := q2.out.at_
                        go_wp2_with fail
                        go_roundw
                        case rel => exact ⟨j + 1, by omega, by go_num, by rw [HLS2.out]; exact M13.out.grow J1.out, MAP.out, M9.out.grow J1.out, M10.out.grow J1.out, M80.out.grow J1.out, MB.out.trans (J1.out.mono MB.out.size)⟩
                        case measure => simp [intOf]; omega
                      · have hd : decide (x ∈ F) = false := decide_eq_false hxF
                        have HXF := Lib.hid hxF
                        rw [hd]
                        clear hd hxF
                        obtain ⟨d0, d1, d2, d3, d4, d5⟩ := q2.out.at_
                        go_wp2_with fail
                        refine (HH10.out x y1 (M10.out.vals.grow J1.out)).mono ?_
                        rintro e y2 ⟨rfl, hb2⟩
                        have J2 := Lib.hid (J1.out.trans (hb2.mono J1.out.size))
                        have q3 := Lib.hid (q2.out.keep hb2 q2.out.lt)
                        clear hb2 d0 d1 d2 d3 d4 d5 q2 hqs
                        have hqs := q3.out.lt
                        by_cases hxR : x ∈ R
                        · have hd : decide (x ∈ R) = true := decide_eq_true hxR
                          have HLS2 := Lib.hid (HLS.out.trans (by rw [if_neg (fun h => h.2 hxR), List.append_nil]))
                          rw [hd]
                          clear hd hxR
                          go_wp2_with fail
                          go_roundw
                          case rel => exact ⟨j + 1, by omega, by go_num, by rw [HLS2.out]; exact M13.out.grow J2.out, MAP.out, M9.out.grow J2.out, M10.out.grow J2.out, M80.out.grow J2.out, MB.out.trans (J2.out.mono MB.out.size)⟩
                          case measure => simp [intOf]; omega
                        · have hd : decide (x ∈ R) = false := decide_eq_false hxR
                          have HLS2 := Lib.hid (HLS.out.trans (by rw [if_pos ⟨HXF.out, hxR⟩]))
                          rw [hd]
                          clear hd hxR
                          have hll : (lacks F R (v.needs.take j)).length ≤ 2 := Nat.le_trans (List.length_filter_le _ _) (by rw [List.length_take]; omega)
                          have hbw : w.heap.size ≤ y2.heap.size := Nat.le_trans MB.out.size J2.out.size
                          obtain ⟨d0, d1, d2, d3, d4, d5⟩ := q3.out.at_
                          go_wp2_with (at_builtin; refine wpList_appO rfl _ _ rfl w.heap.size u13 (T ++ lacks F R (v.needs.take j)) rfl ((M13.out.grow J2.out).grow ((Below.refl _ _).alloc (Nat.le_refl _) _)) _ [x] rfl (src_val (heap_alloc_new _ _) 1) (by rw [List.length_append]; simp; omega) (by simp; omega) ?_; intro v5 y3 hr5 hp5)
                          have KB := Lib.hid ((Below.refl y2.heap.size y2).alloc (Nat.le_refl _) (.cells #[.int .i64 x.tag, .string (bs x.text), .int .u64 x.bits, .string (bs x.cls), .string (bs x.name), .string (bs x.desc)] 36))
                          have S13 := Lib.hid hr5
                          have SP := Lib.hid hp5
                          have J3 := Lib.hid (Below.trans (J2.out.mono (Nat.le_refl _)) (KB.out.mono J2.out.size))
                          have S9 := Lib.hid ((M9.out.grow J3.out).hop hp5 MAP.out (by simp))
                          have S10 := Lib.hid ((M10.out.grow J3.out).hop hp5 MAP.out (by simp))
                          have S80 := Lib.hid ((M80.out.grow J3.out).hop hp5 MAP.out (by simp))
                          have SAP := Lib.hid (MAP.out.hop hp5 (fun u hu k e => by
                            simp only [List.mem_cons, List.not_mem_nil, or_false] at hu
                            rcases hu with rfl | rfl | rfl
                            · exact (M9.out.grow J3.out).lt e
                            · exact (M10.out.grow J3.out).lt e
                            · exact (M80.out.grow J3.out).lt e))
                          have SB := Lib.hid ((MB.out.trans (J3.out.mono MB.out.size)).trans (hp5.below (Nat.le_trans MB.out.size J3.out.size) (fun k hk => (M13.out.base_le hk).1)))
                          clear hr5 hp5 d0 d1 d2 d3 d4 d5 hqs
                          go_roundw
                          case rel => exact ⟨j + 1, by omega, by go_num, by rw [HLS2.out, ← List.append_assoc]; exact S13.out, SAP.out, S9.out, S10.out, S80.out, SB.out⟩
                          case measure => simp [intOf]; omega
                    · obtain rfl : j = v.needs.length := by omega
                      have p1 : decide ((v.needs.length : Int) < (v.needs.length : Int)) = false := decide_eq_false (by omega)
                      have p2 : decide (v.needs.length < v.needs.length) = false := decide_eq_false (by omega)
                      have hw2 := wts_lacks F R v
                      have HT2 := Lib.hid (HT.out.lows HVF.out)
                      rw [List.take_length] at M13
                      go_wp2_with fail
                      go_roundg (gk - 1)
                      case measure => omega
                      case rel => exact ⟨R, T ++ lacks F R v.needs, by rw [wts_append]; omega, by rw [wts_append]; omega, HT2.out, M9.out, M10.out, M13.out, fun k hk u hu => MAP.out k hk u (by simp only [List.mem_cons, List.not_mem_nil, or_false] at hu ⊢; rcases hu with rfl | rfl <;> simp), MB.out⟩
                · have hd : decide (v ∈ F) = false := decide_eq_false hvF
                  have HVF := Lib.hid hvF
                  rw [hd]
                  clear hd hvF
                  obtain ⟨d0, d1, d2, d3, d4, d5⟩ := q2.out.at_
                  have hqs := q2.out.lt
                  go_wp2_with fail
                  refine (HH10.out v x1 (HV10.out.grow J1.out)).mono ?_
                  rintro e x2 ⟨rfl, hb2⟩
                  have q3 := Lib.hid (q2.out.keep hb2 q2.out.lt)
                  have J2 := Lib.hid (J1.out.trans (hb2.mono J1.out.size))
                  clear hb2 d0 d1 d2 d3 d4 d5 q2 hqs
                  obtain ⟨d0, d1, d2, d3, d4, d5⟩ := q3.out.at_
                  have hqs := q3.out.lt
                  by_cases hvR : v ∈ R
                  · have hd : decide (v ∈ R) = true := decide_eq_true hvR
                    have HT2 := Lib.hid (HT.out.old HVF.out hvR)
                    rw [hd]
                    clear hd hvR
                    go_wp2_with fail
                    refine (HH9.out v x2 (HV9.out.grow J2.out)).mono ?_
                    rintro e x3 ⟨rfl, hb3⟩
                    have hd : decide (v ∈ F) = false := decide_eq_false HVF.out
                    rw [hd]
                    have J3 := Lib.hid (J2.out.trans (hb3.mono J2.out.size))
                    clear hb3 hd d0 d1 d2 d3 d4 d5 q3 hqs
                    go_wp2_with fail
                    go_roundg (gk - 1)
                    case measure => omega
                    case rel => exact ⟨R, T, by omega, by omega, HT2.out, H9.out.grow J3.out, H10.out.grow J3.out, HN13.out.grow J3.out, fun k hk u hu => by
                      rw [HB13.out] at hk
                      cases hk
                      exact HG.out u hu, HB.out.trans (J3.out.mono HB.out.size)⟩
                  · have hd : decide (v ∈ R) = false := decide_eq_false hvR
                    have HVR := Lib.hid hvR
                    have HT2 := Lib.hid (HT.out.add HVF.out hvR)
                    have hwn := wts_needs v
                    have hnl := v.needs_len
                    have hpl := putO_len R v
                    have hPT := put_any w.heap.size (.slice A10 R.length c10) R v
                    unfold vv at hPT
                    have HPT := Lib.hid hPT
                    rw [hd]
                    clear hd hvR hPT
                    go_wp2_with fail
                    refine (HPT.out x2 (H10.out.grow J2.out) (by omega) (Nat.le_trans HB.out.size J2.out.size)).mono ?_
                    rintro e x3 ⟨u', rfl, hor, hr, hb3⟩
                    have HF10 := Lib.hid (show VRow x3 x2.heap.size u' (putO Pv.lt R v) by
                      rcases hor with ⟨h, _⟩ | ⟨_, h⟩
                      · exact absurd h HVR.out
                      · exact h)
                    have R10 := Lib.hid hr
                    have q4 := Lib.hid (q3.out.keep hb3 q3.out.lt)
                    have J3 := Lib.hid (J2.out.trans (hb3.mono J2.out.size))
                    clear hor hr hb3 d0 d1 d2 d3 d4 d5 q3 hqs
                    obtain ⟨d0, d1, d2, d3, d4, d5⟩ := q4.out.at_
                    have hqs := q4.out.lt
                    go_wp2_with fail
                    refine (HND.out v x3).mono ?_
                    rintro e x4 ⟨u74, rfl, hr74, hb4⟩
                    have J4 := Lib.hid (J3.out.trans (hb4.mono J3.out.size))
                    have JX := Lib.hid hb4
                    obtain ⟨A74, c74, rfl, hV74, hA74⟩ := hr74.reads
                    have HV74 := Lib.hid hV74
                    clear hb4 hr74 hV74 hA74 d0 d1 d2 d3 d4 d5 hqs q4
                    go_wp2_with (at_builtin; refine wpList_appO rfl _ _ rfl w.heap.size t13 T rfl (HN13.out.grow J4.out) _ v.needs rfl (HV74.out.src (Below.refl _ _)) (by omega) (Nat.le_trans HB.out.size J4.out.size) ?_; intro v5 x5 hr5 hp5)
                    have S13 := Lib.hid hr5
                    have AP := Lib.hid (show ApartOf t13 [.slice A9 F.length c9, u'] from fun k hk u hu => by
                      rw [HB13.out] at hk
                      cases hk
                      simp only [List.mem_cons, List.not_mem_nil, or_false] at hu
                      rcases hu with rfl | rfl
                      · exact HG.out _ (by simp)
                      · intro e
                        have h1 := HF10.out.base_le e
                        have h2 := J2.out.size
                        omega)
                    have S9 := Lib.hid ((H9.out.grow J4.out).hop hp5 AP.out (by simp))
                    have S10 := Lib.hid ((R10.out.grow JX.out).hop hp5 AP.out (by simp))
                    have SAP := Lib.hid (AP.out.hop hp5 (fun u hu k e => by
                      simp only [List.mem_cons, List.not_mem_nil, or_false] at hu
                      rcases hu with rfl | rfl
                      · exact (H9.out.grow J4.out).lt e
                      · exact (R10.out.grow JX.out).lt e))
                    have SB := Lib.hid ((HB.out.trans (J4.out.mono HB.out.size)).trans (hp5.below (Nat.le_trans HB.out.size J4.out.size) (fun k hk => (HN13.out.base_le hk).1)))
                    clear hr5 hp5
                    go_roundg (gk - 1)
                    case measure => omega
                    case rel => exact ⟨putO Pv.lt R v, T ++ v.needs, by rw [wts_append]; omega, by rw [wts_append]; omega, HT2.out, S9.out, S10.out, S13.out, SAP.out, SB.out⟩
end Go.Proofs.YtkdamaomhppkgaaGreat

/- Layer 28, plain: what the document's order comes to, each value once; a table's rows and numbers. No program. -/
namespace Go.Proofs.YtkdamaomhppkgaaGreat

theorem ord_nil (l : List Pv) : Pv.ord [] l = sd Pv.lt (clAll l) := by
  unfold Pv.ord Pv.rest
  have e : (clAll ([] ++ l)).filter (fun x => decide (x ∉ ([] : List Pv))) = clAll l := by
    rw [List.nil_append]
    exact List.filter_eq_self.2 fun x _ => by simp
  rw [e]
  rfl
/-- The document's closure: of the order's values, each once. -/
def Pv.dd : Pv → Bool → List Pv → List Pv
  | _, _, [] => []
  | p, first, v :: vs => (if first = true ∨ v ≠ p then [v] else []) ++ Pv.dd v false vs
theorem dd_slots : ∀ (l : List Pv), l.Nodup → ∀ (p : Pv) (first : Bool), first = true ∨ p ∉ l → Pv.dd p first (l.flatMap Pv.slot) = l
  | [], _, _, _, _ => rfl
  | v :: l, hn, p, first, h => by
    obtain ⟨h1, h2⟩ := List.nodup_cons.1 hn
    have hc : first = true ∨ v ≠ p := h.imp_right fun h e => h (e ▸ List.mem_cons_self ..)
    have ih := dd_slots l h2 v false (.inr h1)
    rw [List.flatMap_cons]
    have hs : v.slot = [v] ∨ v.slot = [v, v] := by
      unfold Pv.slot
      cases v.wide
      · exact .inl rfl
      · exact .inr rfl
    rcases hs with hs | hs <;> rw [hs]
    · simp only [List.cons_append, List.nil_append, Pv.dd]
      rw [if_pos hc, ih]
      rfl
    · simp only [List.cons_append, List.nil_append, Pv.dd]
      rw [if_pos hc, if_neg (by simp), ih]
      rfl
/-- The values of a tag. -/
def Pv.row (O : List Pv) (t : Int) : List Pv := O.filter fun v => decide (v.tag = t)
/-- A value's place among those of its tag. -/
def Pv.rk : List Pv → Pv → Nat
  | [], _ => 0
  | x :: xs, v => if x = v then 0 else (if x.tag = v.tag then 1 else 0) + Pv.rk xs v
theorem row_nil (t : Int) : Pv.row [] t = [] := rfl
theorem row_cons (x : Pv) (xs : List Pv) (t : Int) : Pv.row (x :: xs) t = (if x.tag = t then [x] else []) ++ Pv.row xs t := by
  unfold Pv.row
  rw [List.filter_cons]
  by_cases h : x.tag = t
  · simp [h]
  · simp [h]
theorem row_app (a b : List Pv) (t : Int) : Pv.row (a ++ b) t = Pv.row a t ++ Pv.row b t := List.filter_append ..
theorem row_snoc {O : List Pv} {i : Nat} {v : Pv} (h : O[i]? = some v) (t : Int) : Pv.row (O.take (i + 1)) t = Pv.row (O.take i) t ++ (if v.tag = t then [v] else []) := by
  obtain ⟨h1, rfl⟩ := List.getElem?_eq_some_iff.1 h
  rw [List.take_succ_eq_append_getElem h1, row_app, row_cons, row_nil, List.append_nil]
theorem row_len (O : List Pv) (t : Int) : (Pv.row O t).length ≤ O.length := List.length_filter_le ..
theorem mem_row {O : List Pv} {t : Int} {v : Pv} : v ∈ Pv.row O t ↔ v ∈ O ∧ v.tag = t := by
  unfold Pv.row
  rw [List.mem_filter]
  simp
/-- At its turn a value's number is how many of its tag there were. -/
theorem rk_take : ∀ {O : List Pv} {i : Nat} {v : Pv}, O.Nodup → O[i]? = some v → Pv.rk O v = (Pv.row (O.take i) v.tag).length
  | [], i, v, _, h => by simp at h
  | x :: xs, 0, v, _, h => by
    simp at h
    subst h
    simp [Pv.rk, Pv.row]
  | x :: xs, i + 1, v, hn, h => by
    obtain ⟨h1, h2⟩ := List.nodup_cons.1 hn
    rw [List.getElem?_cons_succ] at h
    have hv : v ∈ xs := List.mem_of_getElem? h
    have hne : x ≠ v := fun e => h1 (e ▸ hv)
    rw [Pv.rk, if_neg hne, List.take_succ_cons, row_cons, rk_take h2 h, List.length_append]
    by_cases e : x.tag = v.tag
    · rw [if_pos e, if_pos e]; simp
    · rw [if_neg e, if_neg e]; simp
theorem row_get : ∀ {O : List Pv} {v : Pv}, v ∈ O → (Pv.row O v.tag)[Pv.rk O v]? = some v
  | [], v, h => by simp at h
  | x :: xs, v, h => by
    rw [row_cons, Pv.rk]
    by_cases e : x = v
    · subst e; simp
    · have hv : v ∈ xs := (List.mem_cons.1 h).resolve_left fun h => e h.symm
      have ih := row_get hv
      rw [if_neg e]
      by_cases et : x.tag = v.tag
      · rw [if_pos et, if_pos et, Nat.add_comm]
        simpa using ih
      · rw [if_neg et, if_neg et]
        simpa using ih
theorem rk_lt {O : List Pv} {v : Pv} (h : v ∈ O) : Pv.rk O v < (Pv.row O v.tag).length := (List.getElem?_eq_some_iff.1 (row_get h)).1
/-- What the numbers say while values are put in. -/
def Pv.nums (O : List Pv) (i : Nat) (v : Pv) : Int := if v ∈ O.take i then ((Pv.rk O v : Nat) : Int) else 0
theorem nums_zero (O : List Pv) : Pv.nums O 0 = fun _ => 0 := by funext v; simp [Pv.nums]
theorem nums_next {O : List Pv} {i : Nat} {v : Pv} (hn : O.Nodup) (h : O[i]? = some v) : Pv.nums O (i + 1) = fun u => if u = v then ((Pv.row (O.take i) v.tag).length : Int) else Pv.nums O i u := by
  funext u
  have e := rk_take hn h
  obtain ⟨h1, rfl⟩ := List.getElem?_eq_some_iff.1 h
  have hm : u ∈ O.take (i + 1) ↔ u ∈ O.take i ∨ u = O[i] := by
    rw [List.take_succ_eq_append_getElem h1, List.mem_append, List.mem_singleton]
  unfold Pv.nums
  by_cases hu : u = O[i]
  · rw [if_pos (hm.2 (.inr hu)), if_pos hu, hu, e]
  · rw [if_neg hu]
    by_cases h2 : u ∈ O.take i
    · rw [if_pos (hm.2 (.inl h2)), if_pos h2]
    · rw [if_neg (fun h => (hm.1 h).elim h2 hu), if_neg h2]
theorem nums_all (O : List Pv) (v : Pv) : Pv.nums O O.length v = if v ∈ O then ((Pv.rk O v : Nat) : Int) else 0 := by
  unfold Pv.nums
  rw [List.take_length]
/-- Tags of what may be. -/
theorem chk_tag {v : Pv} (h : v.chk 0 9 5 = 0) : 1 ≤ v.tag ∧ v.tag ≤ 12 := by
  unfold Pv.chk at h
  by_cases h1 : v.tag = 1 ∨ v.tag = 7 ∨ v.tag = 8 ∨ v.tag = 3 ∨ v.tag = 4 ∨ v.tag = 5 ∨ v.tag = 6 ∨ v.tag = 12 ∨ v.tag = 9 ∨ v.tag = 10 ∨ v.tag = 11
  · omega
  · exfalso
    repeat' split at h
    all_goals first | omega | exact absurd h (by decide)
theorem row_none {O : List Pv} (h : ∀ v ∈ O, v.chk 0 9 5 = 0) {t : Int} (ht : t < 1 ∨ 12 < t) : Pv.row O t = [] := by
  refine List.eq_nil_iff_forall_not_mem.2 fun v hv => ?_
  obtain ⟨h1, h2⟩ := mem_row.1 hv
  have := chk_tag (h v h1)
  omega
end Go.Proofs.YtkdamaomhppkgaaGreat

/- Layer 24 plain: numbers of as few bytes as may be; a row that is written is read as it was. No program. -/
namespace Go.Proofs.YtkdamaomhppkgaaGreat

/-- A coding: bytes at most, 256 less the least that goes on, low bits of a sign, are differences written? -/
structure Cod where
  b : Nat
  h : Nat
  s : Nat
  d : Nat
  deriving DecidableEq
def Cod.ok (c : Cod) : Prop := 1 ≤ c.b ∧ c.b ≤ 5 ∧ 2 ≤ c.h ∧ c.h ≤ 256 ∧ c.s ≤ 2 ∧ c.d ≤ 1 ∧ (1 < c.b ∨ c.h = 256) ∧ (c.b < 5 ∨ c.h < 256)
instance (c : Cod) : Decidable c.ok := by unfold Cod.ok; infer_instance
/-- How many plain numbers there are of k + 1 bytes at most. -/
def reachU (h : Nat) : Nat → Nat
  | 0 => 256
  | k + 1 => 256 - h + h * reachU h k
def Cod.reach (c : Cod) : Nat := min (reachU c.h (c.b - 1)) 4294967296
/-- A plain number's bytes. -/
def putU (h : Nat) : Nat → Nat → List UInt8
  | 0, u => [UInt8.ofNat u]
  | k + 1, u => if u < 256 - h then [UInt8.ofNat u] else UInt8.ofNat (256 - h + (u - (256 - h)) % h) :: putU h k ((u - (256 - h)) / h)
/-- The plain number that bytes begin with. -/
def getU (h : Nat) : Nat → List UInt8 → Option (Nat × List UInt8)
  | _, [] => none
  | 0, x :: l => some (x.toNat, l)
  | k + 1, x :: l => if x.toNat < 256 - h then some (x.toNat, l) else (getU h k l).map fun p => (x.toNat + h * p.1, p.2)
theorem ofNat_lt {n : Nat} (h : n < 256) : (UInt8.ofNat n).toNat = n := by simp [UInt8.toNat_ofNat']; omega
theorem get_put {h : Nat} (h1 : 1 ≤ h) (h2 : h ≤ 256) : ∀ (k u : Nat) (r : List UInt8), u < reachU h k → getU h k (putU h k u ++ r) = some (u, r)
  | 0, u, r, hu => by
    simp only [putU, List.singleton_append, getU]
    rw [ofNat_lt hu]
  | k + 1, u, r, hu => by
    simp only [reachU] at hu
    by_cases hl : u < 256 - h
    · simp only [putU, if_pos hl, List.singleton_append, getU]
      rw [ofNat_lt (by omega), if_pos hl]
    · have hm : (u - (256 - h)) % h < h := Nat.mod_lt _ (by omega)
      have hd : (u - (256 - h)) / h < reachU h k := by
        rw [Nat.div_lt_iff_lt_mul (by omega), Nat.mul_comm]
        omega
      simp only [putU, if_neg hl, List.cons_append, getU]
      rw [ofNat_lt (by omega), if_neg (by omega), get_put h1 h2 k _ r hd]
      simp only [Option.map_some]
      have := Nat.mod_add_div (u - (256 - h)) h
      congr 2
      omega
theorem put_len (h : Nat) : ∀ (k u : Nat), 1 ≤ (putU h k u).length
  | 0, u => by simp [putU]
  | k + 1, u => by
    unfold putU
    split <;> simp
theorem get_lt {h : Nat} (h2 : h ≤ 256) : ∀ (k : Nat) (l : List UInt8) (p : Nat × List UInt8), getU h k l = some p → p.1 < reachU h k
  | k, [], p, e => by cases k <;> simp [getU] at e
  | 0, x :: l, p, e => by
    simp only [getU, Option.some.injEq] at e
    rw [← e]
    exact x.toNat_lt
  | k + 1, x :: l, p, e => by
    have hx := x.toNat_lt
    simp only [getU] at e
    simp only [reachU]
    split at e
    · rename_i hx2
      simp only [Option.some.injEq] at e
      rw [← e]
      dsimp only
      omega
    · cases hg : getU h k l with
      | none => rw [hg] at e; cases e
      | some q =>
        rw [hg] at e
        simp only [Option.map_some, Option.some.injEq] at e
        have := get_lt h2 k l q hg
        rw [← e]
        dsimp only
        have h3 : h * q.1 + h ≤ h * reachU h k := by
          rw [← Nat.mul_succ]
          exact Nat.mul_le_mul_left _ this
        omega

/-- A number's plain one, and a plain one's number. -/
def plainI (s : Nat) (v : Int) : Int := if s = 0 then v else if v < 0 then (-1 - v) * 2 ^ s + (2 ^ s - 1) else v + v / (2 ^ s - 1)
def numI (s : Nat) (u : Int) : Int := if s = 0 then u else if u % 2 ^ s = 2 ^ s - 1 then -1 - u / 2 ^ s else u - u / 2 ^ s
theorem num_plain {s : Nat} (hs : s ≤ 2) (v : Int) : numI s (plainI s v) = v := by
  obtain rfl | rfl | rfl : s = 0 ∨ s = 1 ∨ s = 2 := by omega
  · simp [numI, plainI]
  · unfold numI plainI
    simp only [show ¬ (1 : Nat) = 0 from by decide, if_false, show (2 : Int) ^ 1 = 2 from rfl]
    by_cases hv : v < 0
    · simp only [hv, if_true]
      split <;> omega
    · simp only [hv, if_false]
      split <;> omega
  · unfold numI plainI
    simp only [show ¬ (2 : Nat) = 0 from by decide, if_false, show (2 : Int) ^ 2 = 4 from rfl]
    by_cases hv : v < 0
    · simp only [hv, if_true]
      split <;> omega
    · simp only [hv, if_false]
      split <;> omega
/-- A row's bounds. -/
def boundI (s : Nat) (v : Int) : Bool := if s = 0 then decide (0 ≤ v ∧ v < 4294967296) else decide (-2147483648 ≤ v ∧ v < 2147483648)
def roundI (s : Nat) (v : Int) : Int := if s = 0 then v % 4294967296 else (v + 2147483648) % 4294967296 - 2147483648
theorem round_bound (s : Nat) (v : Int) : boundI s (roundI s v) = true := by
  unfold boundI roundI
  split
  · exact decide_eq_true (by omega)
  · exact decide_eq_true (by omega)
theorem round_back {s : Nat} {v last : Int} (h : boundI s v = true) : roundI s (last + roundI s (v - last)) = v := by
  unfold boundI at h
  unfold roundI
  by_cases hs : s = 0
  · rw [if_pos hs] at h ⊢
    simp only [hs, if_true]
    have := of_decide_eq_true h
    omega
  · rw [if_neg hs] at h ⊢
    simp only [hs, if_false]
    have := of_decide_eq_true h
    omega
/-- What is written of a number, behind another one. -/
def Cod.diff (c : Cod) (last v : Int) : Int := if c.d = 1 then roundI c.s (v - last) else v
def Cod.sum (c : Cod) (last v : Int) : Int := if c.d = 1 then roundI c.s (last + v) else v
def Cod.fits (c : Cod) (u : Int) : Bool := decide (0 ≤ u ∧ u < (c.reach : Int))
/-- A row's bytes; none: a number is out of range. -/
def Cod.row (c : Cod) : Int → List Int → Option (List UInt8)
  | _, [] => some []
  | last, v :: l => if boundI c.s v = true ∧ c.fits (plainI c.s (c.diff last v)) = true then (c.row v l).map fun r => putU c.h (c.b - 1) (plainI c.s (c.diff last v)).toNat ++ r else none
/-- A number that bytes begin with: an error, or the number and what is left. -/
def Cod.get (c : Cod) (l : List UInt8) : Except Int (Int × List UInt8) :=
  match getU c.h (c.b - 1) l with
  | none => .error 6
  | some (u, r) => if 4294967296 ≤ u then .error 5 else .ok (numI c.s u, r)
/-- A row that bytes begin with. -/
def Cod.read (c : Cod) : Nat → Int → List UInt8 → Except Int (List Int × List UInt8)
  | 0, _, l => .ok ([], l)
  | n + 1, last, l => match c.get l with
    | .error e => .error e
    | .ok (v, r) => if boundI c.s v = true then (match c.read n (c.sum last v) r with
      | .error e => .error e
      | .ok (vs, r') => .ok (c.sum last v :: vs, r')) else .error 5
theorem Cod.diff_bound (c : Cod) {last v : Int} (h : boundI c.s v = true) : boundI c.s (c.diff last v) = true := by
  unfold Cod.diff
  split
  · exact round_bound _ _
  · exact h
theorem Cod.sum_diff (c : Cod) {last v : Int} (h : boundI c.s v = true) : c.sum last (c.diff last v) = v := by
  unfold Cod.sum Cod.diff
  by_cases hd : c.d = 1
  · rw [if_pos hd, if_pos hd]; exact round_back h
  · rw [if_neg hd, if_neg hd]
theorem Cod.get_put (c : Cod) (hc : c.ok) {v : Int} (hf : c.fits (plainI c.s v) = true) (r : List UInt8) : c.get (putU c.h (c.b - 1) (plainI c.s v).toNat ++ r) = .ok (v, r) := by
  obtain ⟨_, _, h1, h2, h3, _⟩ := hc
  unfold Cod.fits at hf
  obtain ⟨f1, f2⟩ := of_decide_eq_true hf
  unfold Cod.reach at f2
  have f3 : (plainI c.s v).toNat < reachU c.h (c.b - 1) := by omega
  have f4 : (plainI c.s v).toNat < 4294967296 := by omega
  unfold Cod.get
  rw [Go.Proofs.YtkdamaomhppkgaaGreat.get_put (by omega) h2 _ _ r f3]
  dsimp only
  rw [if_neg (by omega), Int.toNat_of_nonneg f1, num_plain h3]
/-- What is written is read as it was. -/
theorem Cod.read_row (c : Cod) (hc : c.ok) : ∀ (l : List Int) (last : Int) (b r : List UInt8), c.row last l = some b → c.read l.length last (b ++ r) = .ok (l, r)
  | [], last, b, r, h => by
    simp only [Cod.row, Option.some.injEq] at h
    rw [← h]
    rfl
  | v :: l, last, b, r, h => by
    unfold Cod.row at h
    split at h
    · rename_i hb
      cases hr : c.row v l with
      | none => rw [hr] at h; cases h
      | some b' =>
        rw [hr] at h
        simp only [Option.map_some, Option.some.injEq] at h
        subst h
        rw [List.append_assoc, List.length_cons]
        unfold Cod.read
        rw [c.get_put hc hb.2 (b' ++ r)]
        dsimp only
        rw [if_pos (c.diff_bound hb.1), c.sum_diff hb.1, Cod.read_row c hc l v b' r hr]
    · cases h
theorem Cod.row_len (c : Cod) : ∀ (l : List Int) (last : Int) (b : List UInt8), c.row last l = some b → l.length ≤ b.length
  | [], last, b, h => by simp
  | v :: l, last, b, h => by
    unfold Cod.row at h
    split at h
    · cases hr : c.row v l with
      | none => rw [hr] at h; cases h
      | some b' =>
        rw [hr] at h
        simp only [Option.map_some, Option.some.injEq] at h
        subst h
        have := Cod.row_len c l v b' hr
        have := put_len c.h (c.b - 1) (plainI c.s (c.diff last v)).toNat
        simp only [List.length_cons, List.length_append]
        omega
    · cases h
end Go.Proofs.YtkdamaomhppkgaaGreat

/- Layer 26 plain: the codings, and a row by a coding's number. No program. -/
namespace Go.Proofs.YtkdamaomhppkgaaGreat

def cods : List Cod := [⟨5, 64, 0, 0⟩, ⟨5, 64, 1, 0⟩, ⟨1, 256, 0, 0⟩, ⟨1, 256, 1, 0⟩, ⟨1, 256, 1, 1⟩, ⟨5, 64, 0, 1⟩, ⟨5, 64, 1, 1⟩, ⟨3, 128, 0, 0⟩, ⟨2, 128, 0, 1⟩, ⟨2, 192, 0, 0⟩, ⟨4, 256, 0, 0⟩, ⟨4, 256, 1, 0⟩, ⟨2, 256, 0, 0⟩, ⟨5, 16, 0, 0⟩, ⟨5, 4, 1, 1⟩]
theorem cods_ok : ∀ c ∈ cods, c.ok := by decide
/-- A row by a coding's number. -/
def plainR (kind n : Nat) (r : List UInt8) : Except Int (List Int × List UInt8) :=
  match cods[kind]? with
  | none => .error 9
  | some c => if r.length < n then .error 6 else c.read n 0 r
def nextR (n : Nat) : List UInt8 → Except Int (List Int × List UInt8)
  | [] => .error 6
  | k :: r => plainR k.toNat n r
end Go.Proofs.YtkdamaomhppkgaaGreat

/- Layer 25 in plain words: favorites' places. No program. -/
namespace Go.Proofs.YtkdamaomhppkgaaGreat.Pp
open Go.RowKit

/-- A number's place among favorites, from 1 on; 0: none. -/
def Po.at : List Int → Int → Nat
  | [], _ => 0
  | f :: fs, v => if f = v then 1 else if Po.at fs v = 0 then 0 else Po.at fs v + 1
theorem Po.at_le : ∀ (fs : List Int) (v : Int), Po.at fs v ≤ fs.length
  | [], _ => Nat.le_refl _
  | f :: fs, v => by
    have := Po.at_le fs v
    unfold Po.at
    split
    · simp
    · split <;> simp only [List.length_cons] <;> omega
theorem Po.at_zero : ∀ {fs : List Int} {v : Int}, Po.at fs v = 0 ↔ v ∉ fs
  | [], v => by simp [Po.at]
  | f :: fs, v => by
    unfold Po.at
    by_cases h : f = v
    · rw [if_pos h]; simp [h]
    · rw [if_neg h]
      have ih := Po.at_zero (fs := fs) (v := v)
      by_cases h0 : Po.at fs v = 0
      · rw [if_pos h0]
        have := ih.1 h0
        simp [this]
        exact fun e => h e.symm
      · rw [if_neg h0]
        have : v ∈ fs := by
          rcases Classical.em (v ∈ fs) with h1 | h1
          · exact h1
          · exact absurd (ih.2 h1) h0
        simp [this]
/-- The number at its place. -/
theorem Po.at_get : ∀ {fs : List Int} {v : Int}, Po.at fs v ≠ 0 → fs[Po.at fs v - 1]? = some v
  | [], v, h => absurd rfl h
  | f :: fs, v, h => by
    unfold Po.at at h ⊢
    by_cases h1 : f = v
    · rw [if_pos h1]; simp [h1]
    · rw [if_neg h1] at h ⊢
      by_cases h0 : Po.at fs v = 0
      · rw [if_pos h0] at h; exact absurd rfl h
      · rw [if_neg h0]
        have := Po.at_get (fs := fs) (v := v) h0
        obtain ⟨k, hk⟩ : ∃ k, Po.at fs v = k + 1 := ⟨Po.at fs v - 1, by omega⟩
        rw [hk] at this ⊢
        simpa using this
/-- One favorite more behind the others. -/
theorem Po.at_snoc : ∀ (fs : List Int) (x v : Int), Po.at (fs ++ [x]) v = if Po.at fs v ≠ 0 then Po.at fs v else if x = v then fs.length + 1 else 0
  | [], x, v => by simp [Po.at]
  | f :: fs, x, v => by
    have ih := Po.at_snoc fs x v
    simp only [List.cons_append, Po.at, ih]
    by_cases h1 : f = v
    · simp [h1]
    · simp only [h1, if_false]
      by_cases h0 : Po.at fs v = 0
      · by_cases h2 : x = v <;> simp [h0, h2]
      · simp [h0]
/-- One favorite more ahead of the others. -/
theorem Po.at_cons (f : Int) (fs : List Int) (v : Int) : Po.at (f :: fs) v = if f = v then 1 else if Po.at fs v = 0 then 0 else Po.at fs v + 1 := rfl
def Po.tokens (fs l : List Int) : List Int := l.map fun v => (Po.at fs v : Int)
def Po.left (fs l : List Int) : List Int := l.filter fun v => decide (Po.at fs v = 0)
theorem Po.tokens_snoc (fs l : List Int) (v : Int) : Po.tokens fs (l ++ [v]) = Po.tokens fs l ++ [(Po.at fs v : Int)] := by simp [Po.tokens]
theorem Po.left_snoc (fs l : List Int) (v : Int) : Po.left fs (l ++ [v]) = Po.left fs l ++ if Po.at fs v = 0 then [v] else [] := by
  unfold Po.left
  rw [List.filter_append]
  by_cases h : Po.at fs v = 0 <;> simp [h]
theorem take_snocI {α : Type} (l : List α) (i : Nat) (x : α) (h : l[i]? = some x) : l.take (i + 1) = l.take i ++ [x] := by
  obtain ⟨h1, rfl⟩ := List.getElem?_eq_some_iff.1 h
  exact List.take_succ_eq_append_getElem h1
theorem count_snoc (l : List Int) (x v : Int) : (l ++ [x]).count v = l.count v + if x = v then 1 else 0 := by
  rw [List.count_append]
  by_cases h : x = v
  · subst h; simp
  · simp [h]
end Go.Proofs.YtkdamaomhppkgaaGreat.Pp
/- The walks of layer 25: counting, and sameness. -/
namespace Go.Proofs.YtkdamaomhppkgaaGreat.Pp
open Go.RowKit

end Go.Proofs.YtkdamaomhppkgaaGreat.Pp
/- Maps of ints by ints that the call makes. -/
namespace Go.Proofs.YtkdamaomhppkgaaGreat.Pp
open Go.RowKit Go.Maps

theorem lawI : Keyed Tryz.prog 3 := int_keyed Tryz.underlying3
theorem zeroI (w : World) : (zeroValue 3).run Tryz.prog w = .ok (.int .i64 0) w := by kernel_rfl
theorem keyI {x : Int} (h : I64 x) : keyOf Tryz.prog 3 (.int .i64 x) = some (.int .i64 x) := keyOf_int_mk Tryz.underlying3 (WalkArith.wf_i64 h)
noncomputable abbrev RI := plainElem (H := Unit) Tryz.prog 3
abbrev OMap (w : World) (b n : Nat) (D : DataW Unit) : Prop := w.ownsMap Tryz.prog 3 RI b n D
/-- What a map reads as: at each key a number; 0 just where it has none. -/
def MapIs (D : DataW Unit) (f : Int → Int) : Prop := (∀ k, D.atKey (.int .i64 k) (.lit (.int .i64 0)) = .lit (.int .i64 (f k))) ∧ ∀ k, Maps.has D (.int .i64 k) = decide (f k ≠ 0)
theorem MapIs.empty : MapIs (.map []) (fun _ => 0) := ⟨fun _ => rfl, fun _ => rfl⟩
theorem MapIs.put {D : DataW Unit} {f : Int → Int} (h : MapIs D f) (hD : IsMap D) (k v : Int) (hv : v ≠ 0) : MapIs (D.put (.int .i64 k) (.lit (.int .i64 v))) (fun x => if x = k then v else f x) := by
  refine ⟨fun x => ?_, fun x => ?_⟩
  · by_cases e : x = k
    · subst e; rw [atKey_put_same (k := .int .i64 x) hD (show WideAt.IsKeyLit (.int .i64 x) from trivial)]; simp
    · rw [atKey_put_other (fun h => e (by injection h)), h.1 x]; simp [e]
  · by_cases e : x = k
    · subst e; rw [has_put_same (k := .int .i64 x) hD (show WideAt.IsKeyLit (.int .i64 x) from trivial)]; simp [hv]
    · rw [has_put_other (fun h => e (by injection h)), h.2 x]; simp [e]
theorem MapIs.same {D : DataW Unit} {f g : Int → Int} (h : MapIs D f) (e : ∀ x, f x = g x) : MapIs D g := by
  have : f = g := funext e
  rw [← this]; exact h
set_option maxRecDepth 100000 in
/-- What a look-up comes to. -/
theorem look_run {w : World} {b n : Nat} {D : DataW Unit} {f : Int → Int} (h : OMap w b n D) (hm : MapIs D f) {k : Int} (hk : I64 k) : (Instr.lookup 146 (.map (some b)) (.int .i64 k) false).run Tryz.prog w = .ok (.int .i64 (f k)) w := by
  obtain ⟨c, hr, hat, _⟩ := h.lookup_int lawI Tryz.underlying146 Tryz.underlying3 (zeroI w) (keyI hk)
  rw [hm.1 k] at hat
  injection hat with hat
  injection hat with _ hat
  rw [hr, ← hat]
theorem OMap.keep {w w' : World} {b n : Nat} {D : DataW Unit} (h : OMap w b n D) (k : Below w.heap.size w w') : OMap w' b n D := h.kept (grownBy_below k none) (by simp)
end Go.Proofs.YtkdamaomhppkgaaGreat.Pp
/- The walk of layer 25: places. -/
namespace Go.Proofs.YtkdamaomhppkgaaGreat.Pp
open Go.RowKit Go.Maps

theorem nodup_snoc (l : List Int) (x : Int) : (l ++ [x]).Nodup ↔ l.Nodup ∧ x ∉ l := by
  rw [List.nodup_append]
  simp
  intro _
  exact ⟨fun h hx => h x hx rfl, fun h a ha e => h (e ▸ ha)⟩
/-- What the places' map is. -/
def PMap (w : World) (b : Nat) (fs : List Int) : Prop :=
  ∃ D, OMap w b fs.length D ∧ MapIs D (fun k => (Po.at fs k : Nat)) ∧ (Maps.size D < fs.length ↔ ¬ fs.Nodup)
theorem PMap.keep {w w' : World} {b : Nat} {fs : List Int} (h : PMap w b fs) (k : Below w.heap.size w w') : PMap w' b fs := by
  obtain ⟨D, h1, h2⟩ := h
  exact ⟨D, h1.keep k, h2⟩

set_option maxHeartbeats 4000000 in
set_option maxRecDepth 100000 in
theorem places_any (A : Option Addr) (c : Nat) (fs : List Int) (w : World) (hx : Ints w A c fs) (hI : ∀ x ∈ fs, I64 x) (hn : fs.length ≤ 1000000) :
    Calls Tryz.prog 107 #[.slice A fs.length c] w fun e w' => e = .returned (.map (some w.heap.size)) ∧ PMap w' w.heap.size fs ∧ Below w.heap.size w w' := by
  have hmm := @run_makeMap Tryz.prog
  have HX := Lib.hid hx
  have HI := Lib.hid hI
  clear hx hI
  go_enter Tryz.func107, Tryz.ntmps107
  go_wp2_with fail
  go_loopw [9] (fun u wr => ∃ (i : Nat) (D : DataW Unit), i ≤ fs.length ∧ u = .int .i64 i ∧ OMap wr w.heap.size i D ∧ MapIs D (fun k => (Po.at (fs.take i) k : Nat)) ∧ Maps.size D ≤ i ∧ (Maps.size D = i ↔ (fs.take i).Nodup) ∧ Below w.heap.size w wr) (fun u _ => fs.length - (intOf u).toNat)
  case atStart => exact ⟨0, .map [], Nat.zero_le _, rfl, World.ownsMap_made _ _ _ _, MapIs.empty, Nat.le_refl _, by simp [Maps.size], (Below.refl _ _).alloc (Nat.le_refl _) _⟩
  case round =>
    obtain ⟨i, D, hil, rfl, hown, hmap, hsz, hnd, hB⟩ := hrel
    have HB := Lib.hid hB
    have HO := Lib.hid hown
    have HM := Lib.hid hmap
    have HN := Lib.hid hnd
    by_cases h1 : i < fs.length
    · obtain ⟨g, o, x, rfl, hg, hxi, hcell⟩ := (HX.out.grow hB).at_ h1
      have hIx := HI.out x (List.mem_of_getElem? hxi)
      have hlook := look_run hown hmap hIx
      have htk := Lib.hid (take_snocI fs i x hxi)
      have hli : (fs.take i).length = i := by rw [List.length_take]; omega
      have HIx := Lib.hid hIx
      have hpl : Po.at (fs.take i) x ≤ i := by have := Po.at_le (fs.take i) x; omega
      clear hB hown hmap hnd hxi hIx
      by_cases h0 : Po.at (fs.take i) x = 0
      · have q : (((Po.at (fs.take i) x : Nat) : Int) == 0) = true := by simp [h0]
        have hnew := Lib.hid (show ∀ k, (if k = x then ((i + 1 : Nat) : Int) else ((Po.at (fs.take i) k : Nat) : Int)) = ((Po.at (fs.take (i + 1)) k : Nat) : Int) from fun k => by
          rw [htk.out, Po.at_snoc, hli]
          by_cases e : k = x
          · subst e; rw [if_pos rfl, h0]; simp
          · rw [if_neg e]
            have e2 : ¬ x = k := fun h => e h.symm
            rw [if_neg e2]
            split
            · rfl
            · rename_i h3; rw [Classical.not_not.1 h3])
        have hnotin := Lib.hid (Po.at_zero.1 h0)
        have hhas : Maps.has D (.int .i64 x) = false := by rw [HM.out.2 x]; simp [h0]
        have hsp := size_put (HO.out.tidy lawI) (k := .int .i64 x) (.lit (.int .i64 ((i + 1 : Nat) : Int)))
        rw [hhas] at hsp
        have HSP := Lib.hid hsp
        clear h0 hhas hsp
        go_wp2_with (first | (at_mapUpdate; refine wpList_mapUpdate_own _ rfl _ _ _ 146 rfl 3 3 lawI Tryz.underlying146 _ w.heap.size i _ rfl HO.out (by unfold maxLen; omega) _ _ _ rfl rfl (keyI HIx.out) (.lit (.int .i64 ((i + 1 : Nat) : Int))) [] (plainElem_int Tryz.underlying3 (WalkArith.wf_i64 (by omega))) ?_; intro w1 hown1 hgrow1) | go_in)
        have hO1 := Lib.hid hown1
        have hB1 := Lib.hid (HB.out.grown hgrow1 HB.out.size (fun j hj => by cases hj; exact Nat.le_refl _))
        clear hown1 hgrow1 hlook
        go_wp2
        go_roundw
        case rel =>
          refine ⟨i + 1, _, by omega, by go_num, hO1.out, (HM.out.put HO.out.isMap x _ (by omega)).same hnew.out, ?_, ?_, hB1.out⟩
          · rw [HSP.out]; simp; omega
          · rw [HSP.out, htk.out, nodup_snoc, ← HN.out]
            simp [hnotin.out]
        case measure => simp [intOf]; omega
      · have q : (((Po.at (fs.take i) x : Nat) : Int) == 0) = false := by simp [h0]
        have hnew := Lib.hid (show ∀ k, ((Po.at (fs.take i) k : Nat) : Int) = ((Po.at (fs.take (i + 1)) k : Nat) : Int) from fun k => by
          rw [htk.out, Po.at_snoc]
          by_cases e : Po.at (fs.take i) k = 0
          · have e2 : ¬ x = k := fun h => h0 (by rw [h]; exact e)
            simp [e, e2]
          · simp [e])
        have hin := Lib.hid (show x ∈ fs.take i from Classical.not_not.1 (fun h => h0 (Po.at_zero.2 h)))
        clear h0
        go_wp2
        go_roundw
        case rel =>
          refine ⟨i + 1, D, by omega, by go_num, HO.out.mono (by omega), HM.out.same hnew.out, by omega, ?_, HB.out⟩
          rw [htk.out, nodup_snoc]
          simp [hin.out]
          omega
        case measure => simp [intOf]; omega
    · have hfin : fs.take i = fs := List.take_of_length_le (by omega)
      obtain rfl : i = fs.length := by omega
      rw [hfin] at hmap hnd
      have hP := Lib.hid (show PMap wr w.heap.size fs from ⟨D, hown, hmap, by rw [← hnd]; omega⟩)
      clear hown hmap hnd hB
      go_wp2
      go_ret
      exact ⟨rfl, hP.out, HB.out⟩
end Go.Proofs.YtkdamaomhppkgaaGreat.Pp
/- The walks of layer 25: splitting. -/
namespace Go.Proofs.YtkdamaomhppkgaaGreat.Pp
open Go.RowKit Go.Maps

/-- One number on, onto a row of the call's own. -/
theorem wpList_app1 {w : World} {ops : Array Oper} {rest : List Oper} {o : Oper} {a : Act} {Q : Exit → Act → World → Prop} (hgd : o.guard = none) (s x : Operand)
    (ho : o.op = .call { callee := .builtin .append, args := #[s, x], argTypes := #[72, 72] })
    (base : Nat) (v : Value) (xs : List Int) (hv : a.eval s = v) (hown : IRow w base v xs) (B : Nat) (n : Int) (t : TypeId) (fr : Nat × Nat) (hX : a.eval x = .slice (some ⟨B, 0, none⟩) 1 1)
    (hb : w.heap[B]? = some (.cells #[.int .i64 n] t fr)) (hn : xs.length ≤ 1000000) (hbase : base ≤ w.heap.size)
    (h : ∀ v' w', IRow w' base v' (xs ++ [n]) → Hop w w' v.ownBlock v'.ownBlock → wpList Tryz.prog ops Q rest (a.put o.dst v') w') : wpList Tryz.prog ops Q (o :: rest) a w := by
  obtain ⟨i0, hi, hz0, hz1, hz2⟩ := info_parts infoInt
  refine wpList_append_row hgd s x 72 72 ho base 3 i0 (.int .i64 0) 1 8 Tryz.underlying72 hi hz0 hz1 hz2 rfl v _ _ hv hown _ 1 [.int .i64 n] hX (fun v' w' h1 h2 => h v' w' (IRow.app (ys := [n]) h1 rfl) h2) ?_ ?_ ?_ hbase
  · exact src_block Tryz.underlying72 1 1 1 _ #[.int .i64 n] _ _ hb rfl (by simp [Value.oneCell'])
  · unfold maxLen; omega
  · omega
theorem _root_.Go.Proofs.YtkdamaomhppkgaaGreat.IRow.base {w : World} {base base' : Nat} {v : Value} {xs : List Int} (h : IRow w base v xs) (hb : base' ≤ base) : IRow w base' v xs := by
  refine ⟨h.1, ?_⟩
  rcases h.2 with hn | ⟨g, cap, cur, hv, hbg, rest⟩
  · exact .inl hn
  · exact .inr ⟨g, cap, cur, hv, Nat.le_trans hb hbg, rest⟩
/-- Two rows that share no block. -/
def Apart (v1 v2 : Value) : Prop := ∀ k, v1.ownBlock = some k → v2.ownBlock ≠ some k
theorem Apart.nil (v : Value) : Apart (.slice none 0 0) v := fun _ h => by simp [Value.ownBlock] at h
theorem Apart.symm {v1 v2 : Value} (h : Apart v1 v2) : Apart v2 v1 := fun k h2 h1 => h k h1 h2
theorem _root_.Go.Proofs.YtkdamaomhppkgaaGreat.IRow.other {w w' : World} {base : Nat} {v1 v1' v2 : Value} {xs : List Int} (h : IRow w base v2 xs) (hop : Hop w w' v1.ownBlock v1'.ownBlock) (ap : Apart v1 v2) : IRow w' base v2 xs ∧ Apart v1' v2 := by
  refine ⟨World.ownsRow.kept h hop.1 ?_, fun k hk h2 => ?_⟩
  · cases h2 : v2.ownBlock with
    | none => exact .inl rfl
    | some k => exact .inr (fun e => ap k e.symm h2)
  · rcases hop.2 with e | ⟨g, hg, e⟩
    · rw [e] at hk; exact ap k hk h2
    · rw [e] at hk
      cases hk
      have := (World.ownsRow.lt h k h2).2
      omega
theorem _root_.Go.Proofs.YtkdamaomhppkgaaGreat.IRow.hop_below {w w' : World} {base : Nat} {v v' : Value} {xs : List Int} (h : IRow w base v xs) (hop : Hop w w' v.ownBlock v'.ownBlock) {B : Nat} {a : World} (hB : Below B a w) (h1 : B ≤ a.heap.size) (h2 : B ≤ base) : Below B a w' :=
  hB.trans (hop.below (Nat.le_trans h1 hB.size) (fun _ e => Nat.le_trans h2 (h.base_le e)))

/-- What the call comes to. -/
def SplitRes (fs l : List Int) (w : World) (e : Ending) (w' : World) : Prop :=
  ∃ v1 v2, e = .returned (.tuple #[v1, v2]) ∧ IRow w' w.heap.size v1 (Po.tokens fs l) ∧ IRow w' w.heap.size v2 (Po.left fs l) ∧ Below w.heap.size w w'

set_option maxHeartbeats 8000000 in
set_option maxRecDepth 100000 in
theorem split_any (A B : Option Addr) (c d : Nat) (l fs : List Int) (w : World) (hx : Ints w A c l) (hy : Ints w B d fs) (hI : ∀ x ∈ l, I64 x) (hJ : ∀ x ∈ fs, I64 x) (hn : l.length ≤ 100000) (hm : fs.length ≤ 100000) :
    Calls Tryz.prog 79 #[.slice A l.length c, .slice B fs.length d] w (SplitRes fs l w) := by
  have HX := Lib.hid hx
  have HI := Lib.hid hI
  have HPL := Lib.hid (places_any B d fs w hy hJ (by omega))
  clear hx hy hI hJ
  go_enter Tryz.func79, Tryz.ntmps79
  go_wp2_with fail
  refine HPL.out.mono ?_
  rintro e w0 ⟨rfl, hP, hb0⟩
  obtain ⟨D, hO, hMI, _⟩ := hP
  have HO := Lib.hid hO
  have HM := Lib.hid hMI
  have HB0 := Lib.hid hb0
  have hlt0 := hO.lt
  clear hO hMI hb0 HPL
  go_wp2_with fail
  go_loopw [4, 5, 13] (fun v1 v2 u wr => ∃ i : Nat, i ≤ l.length ∧ u = .int .i64 i ∧ IRow wr w0.heap.size v1 (Po.tokens fs (l.take i)) ∧ IRow wr w0.heap.size v2 (Po.left fs (l.take i)) ∧ Apart v1 v2 ∧ Below w0.heap.size w0 wr) (fun _ _ u _ => l.length - (intOf u).toNat)
  case atStart => exact ⟨0, Nat.zero_le _, rfl, IRow.nil _ _, IRow.nil _ _, Apart.nil _, Below.refl _ _⟩
  case round =>
    obtain ⟨i, hil, rfl, hr1, hr2, hap, hB⟩ := hrel
    have HB := Lib.hid hB
    have HR1 := Lib.hid hr1
    have HR2 := Lib.hid hr2
    have HAP := Lib.hid hap
    have hlt : (Po.tokens fs (l.take i)).length ≤ l.length := by unfold Po.tokens; rw [List.length_map, List.length_take]; omega
    have hll : (Po.left fs (l.take i)).length ≤ l.length := by unfold Po.left; exact Nat.le_trans (List.length_filter_le _ _) (by rw [List.length_take]; omega)
    by_cases h1 : i < l.length
    · obtain ⟨g, o, x, rfl, hg, hxi, hcell⟩ := (HX.out.grow (Below.after' HB0.out (hB.mono (Nat.le_refl _)) (Nat.le_refl _))).at_ h1
      have hIx := HI.out x (List.mem_of_getElem? hxi)
      have htk := Lib.hid (take_snocI l i x hxi)
      have hO2 := Lib.hid (HO.out.keep (hB.mono (Nat.le_refl _)))
      have hlook := look_run hO2.out HM.out hIx
      have hIx2 := Lib.hid hIx
      have hzr := hB.size
      have hT := Lib.hid (show Po.tokens fs (l.take (i + 1)) = Po.tokens fs (l.take i) ++ [(Po.at fs x : Int)] by rw [htk.out, Po.tokens_snoc])
      clear hB hr1 hr2 hap hxi hIx
      by_cases h0 : Po.at fs x = 0
      · have q : (((Po.at fs x : Nat) : Int) == 0) = true := by simp [h0]
        have q2 : (Po.at fs x == 0) = true := by simp [h0]
        have hL := Lib.hid (show Po.left fs (l.take (i + 1)) = Po.left fs (l.take i) ++ [x] by rw [htk.out, Po.left_snoc, if_pos h0])
        clear h0

        go_upto_region 7 with ((at_builtin; refine wpList_app1 rfl _ _ rfl w0.heap.size u4 _ rfl (HR1.out.grow ((Below.refl _ _).alloc (Nat.le_refl _) _)) wr.heap.size ((Po.at fs x : Nat) : Int) _ _ rfl (heap_alloc_new _ _) (by omega) (by simp; omega) ?_; intro v' w1 hown1 hhop1; have hR1 := Lib.hid hown1; have hR2 := Lib.hid ((HR2.out.grow ((Below.refl _ _).alloc (Nat.le_refl _) (.cells #[.int .i64 ((Po.at fs x : Nat) : Int)] 3))).other hhop1 HAP.out); have HB1 := Lib.hid ((HR1.out.grow ((Below.refl _ _).alloc (Nat.le_refl _) (.cells #[.int .i64 ((Po.at fs x : Nat) : Int)] 3))).hop_below hhop1 (HB.out.alloc hzr _) (Nat.le_refl _) (Nat.le_refl _)); have hlook1 := look_run (HO.out.keep HB1.out) HM.out hIx2.out; have hz1 := HB1.out.size; clear hown1 hhop1 hlook))
        go_wp2_with (at_builtin; (refine wpList_app1 rfl _ _ rfl w0.heap.size u5 _ rfl (hR2.out.1.grow ((Below.refl _ _).alloc (Nat.le_refl _) _)) w1.heap.size x _ _ rfl (heap_alloc_new _ _) (by omega) (by simp; omega) ?_))
        intro v2' w2 hown2 hhop2
        have hS2 := Lib.hid hown2
        have hS1 := Lib.hid ((hR1.out.grow ((Below.refl _ _).alloc (Nat.le_refl _) (.cells #[.int .i64 x] 3))).other hhop2 hR2.out.2.symm)
        have HB2 := Lib.hid ((hR2.out.1.grow ((Below.refl _ _).alloc (Nat.le_refl _) (.cells #[.int .i64 x] 3))).hop_below hhop2 (HB1.out.alloc hz1 _) (Nat.le_refl _) (Nat.le_refl _))
        clear hown2 hhop2 hlook1
        go_wp2_with fail
        go_roundw
        case rel => exact ⟨i + 1, by omega, by go_num, by rw [hT.out]; exact hS1.out.1, by rw [hL.out]; exact hS2.out, hS1.out.2.symm, HB2.out⟩
        case measure => simp [intOf]; omega
      · have q : (((Po.at fs x : Nat) : Int) == 0) = false := by simp [h0]
        have q2 : (Po.at fs x == 0) = false := by simp [h0]
        have hL := Lib.hid (show Po.left fs (l.take (i + 1)) = Po.left fs (l.take i) by rw [htk.out, Po.left_snoc, if_neg h0, List.append_nil])
        clear h0

        go_wp2_with (first | (at_builtin; refine wpList_app1 rfl _ _ rfl w0.heap.size u4 _ rfl (HR1.out.grow ((Below.refl _ _).alloc (Nat.le_refl _) _)) wr.heap.size ((Po.at fs x : Nat) : Int) _ _ rfl (heap_alloc_new _ _) (by omega) (by simp; omega) ?_; intro v' w1 hown1 hhop1; have hR1 := Lib.hid hown1; have hR2 := Lib.hid ((HR2.out.grow ((Below.refl _ _).alloc (Nat.le_refl _) (.cells #[.int .i64 ((Po.at fs x : Nat) : Int)] 3))).other hhop1 HAP.out); have HB1 := Lib.hid ((HR1.out.grow ((Below.refl _ _).alloc (Nat.le_refl _) (.cells #[.int .i64 ((Po.at fs x : Nat) : Int)] 3))).hop_below hhop1 (HB.out.alloc hzr _) (Nat.le_refl _) (Nat.le_refl _)); have hlook1 := look_run (HO.out.keep HB1.out) HM.out hIx2.out; have hz1 := HB1.out.size; clear hown1 hhop1 hlook) | fail)
        go_roundw
        case rel => exact ⟨i + 1, by omega, by go_num, by rw [hT.out]; exact hR1.out, by rw [hL.out]; exact hR2.out.1, hR2.out.2, HB1.out⟩
        case measure => simp [intOf]; omega
    · have hfin : l.take i = l := List.take_of_length_le (by omega)
      rw [hfin] at hr1 hr2
      have HJ := Lib.hid (Below.after' HB0.out hB (Nat.le_refl _))
      have hbase := HB0.out.size
      have HS1 := Lib.hid hr1
      have HS2 := Lib.hid hr2
      clear hr1 hr2 hB hap
      go_wp2
      go_ret2
      exact ⟨_, _, rfl, HS1.out.base hbase, HS2.out.base hbase, HJ.out⟩
end Go.Proofs.YtkdamaomhppkgaaGreat.Pp
/- The walk of layer 25's reference: splitting. -/
namespace Go.Proofs.YtkdamaomhppkgaaGreat.Pp
open Go.RowKit Go.Maps

/-- The place among the favorites from i on. -/
def Po.from (fs : List Int) (v : Int) (i : Nat) : Nat := if Po.at (fs.drop i) v = 0 then 0 else Po.at (fs.drop i) v + i
theorem Po.from_end (fs : List Int) (v : Int) : Po.from fs v fs.length = 0 := by unfold Po.from; rw [List.drop_length]; rfl
theorem Po.from_zero (fs : List Int) (v : Int) : Po.from fs v 0 = Po.at fs v := by unfold Po.from; rw [List.drop_zero]; split <;> omega
theorem Po.from_step {fs : List Int} {i : Nat} {f : Int} (h : fs[i]? = some f) (v : Int) : Po.from fs v i = if f = v then i + 1 else Po.from fs v (i + 1) := by
  obtain ⟨h1, rfl⟩ := List.getElem?_eq_some_iff.1 h
  unfold Po.from
  rw [List.drop_eq_getElem_cons h1, Po.at_cons]
  by_cases e : fs[i] = v
  · simp [e]; omega
  · simp only [e, if_false]
    by_cases h0 : Po.at (fs.drop (i + 1)) v = 0
    · simp [h0]
    · simp [h0]; omega
theorem Po.from_le (fs : List Int) (v : Int) (i : Nat) (hi : i ≤ fs.length) : Po.from fs v i ≤ fs.length := by
  have := Po.at_le (fs.drop i) v
  rw [List.length_drop] at this
  unfold Po.from
  split <;> omega

end Go.Proofs.YtkdamaomhppkgaaGreat.Pp