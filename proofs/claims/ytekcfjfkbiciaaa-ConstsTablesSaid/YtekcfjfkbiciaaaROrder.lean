/- The walk of layer 19: the pool's order, by the document. -/
import Derived.Test.YtekcfjfkbiciaaaPut
import Derived.Test.YtekcfjfkbiciaaaVOff
import Derived.Test.YtekcfjfkbiciaaaRCheck
import Derived.Deep.LoopGhost
namespace Go.Proofs.Ytekcfjfkbiciaaa
open Go.RowKit

/-- The first thing that is wrong. -/
def Pv.errOf : List Pv → Int
  | [] => 0
  | v :: l => if v.chk 0 9 5 = 0 then Pv.errOf l else v.chk 0 9 5
theorem Pv.errOf_zero : ∀ {l : List Pv}, Pv.errOf l = 0 → ∀ v ∈ l, v.chk 0 9 5 = 0
  | [], _, v, hv => by simp at hv
  | x :: l, h, v, hv => by
    unfold Pv.errOf at h
    split at h
    · rename_i h0
      rcases List.mem_cons.1 hv with rfl | hv
      · exact h0
      · exact Pv.errOf_zero h v hv
    · rename_i h0; exact absurd h h0
theorem Pv.errOf_drop {l : List Pv} {i : Nat} {v : Pv} (h : l[i]? = some v) : Pv.errOf (l.drop i) = if v.chk 0 9 5 = 0 then Pv.errOf (l.drop (i + 1)) else v.chk 0 9 5 := by
  obtain ⟨h3, rfl⟩ := List.getElem?_eq_some_iff.1 h
  rw [List.drop_eq_getElem_cons h3]
  rfl
theorem putO_fold_len : ∀ (l acc : List Pv), (l.foldl (putO Pv.lt) acc).length ≤ acc.length + l.length
  | [], acc => by simp
  | x :: l, acc => by
    have h1 := putO_fold_len l (putO Pv.lt acc x)
    have h2 := putO_len acc x
    rw [List.foldl_cons, List.length_cons]; omega
theorem putO_fold_snoc {l : List Pv} {i : Nat} {v : Pv} (h : l[i]? = some v) : (l.take (i + 1)).foldl (putO Pv.lt) [] = putO Pv.lt ((l.take i).foldl (putO Pv.lt) []) v := by
  obtain ⟨h1, rfl⟩ := List.getElem?_eq_some_iff.1 h
  rw [List.take_succ_eq_append_getElem h1, List.foldl_append]
  rfl
theorem slots_len_le (l : List Pv) : (Pv.slots l).length ≤ 1 + 2 * l.length := by
  rw [Pv.slots_len]
  have : (l.map Pv.room).sum ≤ 2 * l.length := by
    induction l with
    | nil => simp
    | cons x l ih =>
      have hx : x.room ≤ 2 := by unfold Pv.room; split <;> omega
      simp only [List.map_cons, List.sum_cons, List.length_cons]; omega
  omega
theorem slot_snoc {l : List Pv} {i : Nat} {v : Pv} (h : l[i]? = some v) : (l.take (i + 1)).flatMap Pv.slot = (l.take i).flatMap Pv.slot ++ v.slot := by
  obtain ⟨h1, rfl⟩ := List.getElem?_eq_some_iff.1 h
  rw [List.take_succ_eq_append_getElem h1, List.flatMap_append]
  simp
/-- The row t lies apart from these. -/
def ApartOf (t : Value) (us : List Value) : Prop := ∀ k, t.ownBlock = some k → ∀ u ∈ us, u.ownBlock ≠ some k
theorem ApartOf.hop {t t' : Value} {us : List Value} {x x' : World} (h : ApartOf t us) (hp : Hop x x' t.ownBlock t'.ownBlock) (hl : ∀ u ∈ us, ∀ k, u.ownBlock = some k → k < x.heap.size) : ApartOf t' us := by
  intro k hk u hu e
  rcases hp.2 with h2 | ⟨g, hg, h2⟩
  · exact h k (h2 ▸ hk) u hu e
  · rw [h2] at hk
    cases hk
    have := hl u hu k e
    omega
theorem VRow.hop {x x' : World} {base : Nat} {t t' u : Value} {us : List Value} {xs : List Pv} (h : VRow x base u xs) (hp : Hop x x' t.ownBlock t'.ownBlock) (ha : ApartOf t us) (hu : u ∈ us) : VRow x' base u xs :=
  h.kept hp.1 fun k hk e => ha k e u hu hk
theorem VRow.lt {x : World} {base : Nat} {u : Value} {xs : List Pv} (h : VRow x base u xs) {k : Nat} (hk : u.ownBlock = some k) : k < x.heap.size := (World.ownsRow.lt h k hk).2
theorem VRow.vals {x : World} {base : Nat} {A : Option Addr} {n c : Nat} {xs : List Pv} (h : VRow x base (.slice A n c) xs) : Vals x A c xs := by
  obtain ⟨A', c', e, hv, _⟩ := h.reads
  cases e
  exact hv
theorem lacks_snoc {F R l : List Pv} {i : Nat} {x : Pv} (h : l[i]? = some x) : lacks F R (l.take (i + 1)) = lacks F R (l.take i) ++ (if x ∉ F ∧ x ∉ R then [x] else []) := by
  obtain ⟨h1, rfl⟩ := List.getElem?_eq_some_iff.1 h
  rw [List.take_succ_eq_append_getElem h1]
  unfold lacks
  rw [List.filter_append, List.filter_cons, List.filter_nil]
  simp only [Bool.and_eq_true, decide_eq_true_eq]
/-- Between two rounds. -/
def OrdSt (low all F : List Pv) (w : World) (u9 u10 u13 : Value) (g : Nat) (x : World) : Prop :=
  ∃ R T, wts T ≤ g ∧ wts T + R.length ≤ 14000 ∧ Todo low all F R T ∧ VRow x w.heap.size u9 F ∧ VRow x w.heap.size u10 R ∧ VOff x w.heap.size u13 T ∧ ApartOf u13 [u9, u10] ∧ Below w.heap.size w x
/-- What the call comes to. -/
def OrderOk (low all : List Pv) (w : World) (e : Ending) (w' : World) : Prop :=
  ∃ u l, e = .returned (.tuple #[u, .int .i64 (Pv.errOf (low ++ all))]) ∧ VRow w' w.heap.size u l ∧ (Pv.errOf (low ++ all) = 0 ∧ l = Pv.slots (Pv.ord low all) ∨ Pv.errOf (low ++ all) ≠ 0 ∧ l = []) ∧ Below w.heap.size w w'
set_option maxHeartbeats 8000000 in
set_option maxRecDepth 100000 in
theorem order_any (A B : Option Addr) (c d : Nat) (low all : List Pv) (w : World) (hx : Vals w A c low) (hy : Vals w B d all) (hn : low.length ≤ 1000) (hm : all.length ≤ 1000) :
    Calls Try.prog 20 #[.slice A low.length c, .slice B all.length d] w (OrderOk low all w) := by
  have HX := Lib.hid hx
  have HY := Lib.hid hy
  clear hx hy
  go_enter Try.func20, Try.ntmps20
  go_wp2_with (first
    | (at_builtin; refine wpList_appV rfl _ _ rfl w.heap.size (.slice (some ⟨_, 0, none⟩) 0 0) [] rfl (fresh0 (heap_alloc_new _ _) (Nat.le_refl _)) _ low rfl (HX.out.src ((Below.refl _ _).alloc (Nat.le_refl _) _)) (by simp; omega) (by simp) ?_; intro v1 w1 hr1 hp1
       have hb1 : Below w.heap.size w w1 := Below.trans ((Below.refl _ _).alloc (Nat.le_refl _) _) (hp1.below (by simp) (fun k hk => by cases hk; simp))
       have HB1 := Lib.hid hb1; clear hb1)
    | (at_builtin; refine wpList_appV rfl _ _ rfl w.heap.size _ ([] ++ low) rfl hr1 _ all rfl (HY.out.src HB1.out) (by simp; omega) HB1.out.size ?_; intro v2 w2 hr2 hp2
       have hb2 : Below w.heap.size w w2 := HB1.out.trans (hp2.below HB1.out.size (fun k hk => hr1.base_le hk))
       obtain ⟨A2, c2, rfl, hV2, hA2⟩ := hr2.reads; clear hA2
       rw [List.nil_append] at hV2 ⊢
       have HV2 := Lib.hid hV2; have HB2 := Lib.hid hb2; clear hb2 hV2 hp2 hr2 hr1 hp1 HB1))
  have HL := Lib.hid (show (low ++ all).length = low.length + all.length from List.length_append)
  go_loopw [26] (fun t wr => ∃ i : Nat, i ≤ low.length + all.length ∧ t = .int .i64 i ∧ Pv.errOf ((low ++ all).drop i) = Pv.errOf (low ++ all) ∧ Below w2.heap.size w2 wr) (fun t _ => low.length + all.length - (intOf t).toNat)
  case atStart => exact ⟨0, Nat.zero_le _, rfl, rfl, Below.refl _ _⟩
  case round =>
    obtain ⟨i, hil, rfl, herr, hB⟩ := hrel
    have HB := Lib.hid hB
    have HE := Lib.hid herr
    have HW := Lib.hid (HB2.out.trans (hB.mono HB2.out.size))
    clear hB herr
    by_cases hi : i < low.length + all.length
    · obtain ⟨g, o, v, rfl, hg, hv, c0, c1, c2', c3, c4, c5⟩ := (HV2.out.grow HB.out).at_ (i := i) (by rw [HL.out]; exact hi)
      have p1 : decide ((i : Int) < (low.length : Int) + (all.length : Int)) = true := decide_eq_true (by omega)
      have p2 : decide (i < low.length + all.length) = true := decide_eq_true hi
      have he := Pv.errOf_drop hv
      have k1 := Lib.hid ((Below.refl wr.heap.size wr).alloc (Nat.le_refl _) (.cells #[.int .i64 v.tag, .string (bs v.text), .int .u64 v.bits, .string (bs v.cls), .string (bs v.name), .string (bs v.desc)] 25))
      have q1 := Lib.hid (vbox_new wr v)
      have HR := Lib.hid (fun w => rcheck_any v w)
      unfold vv at HR
      obtain ⟨ck, hck⟩ : ∃ ck, ck = v.chk 0 9 5 := ⟨_, rfl⟩
      rw [← hck] at HR he
      clear hck hv
      by_cases h0 : ck = 0
      · subst h0
        rw [if_pos rfl] at he
        have HE1 := Lib.hid (he.symm.trans HE.out)
        clear he
        go_wp2_with fail
        generalize wr.alloc (.cells #[.int .i64 v.tag, .string (bs v.text), .int .u64 v.bits, .string (bs v.cls), .string (bs v.name), .string (bs v.desc)] 25) = W at k1 q1 ⊢
        refine (HR.out _).mono ?_
        rintro e w' ⟨rfl, hb⟩
        have HB1 := Lib.hid (HB.out.trans ((k1.out.trans (hb.mono k1.out.size)).mono HB.out.size))
        clear hb
        go_wp2
        go_roundw
        case rel => exact ⟨i + 1, by omega, by go_num, HE1.out, HB1.out⟩
        case measure => simp [intOf]; omega
      · have p3 : (ck != 0) = true := by simpa using h0
        rw [if_neg h0] at he
        have HE1 := Lib.hid (HE.out.symm.trans he)
        have H0 := Lib.hid h0
        clear he h0
        go_wp2_with fail
        generalize wr.alloc (.cells #[.int .i64 v.tag, .string (bs v.text), .int .u64 v.bits, .string (bs v.cls), .string (bs v.name), .string (bs v.desc)] 25) = W at k1 q1 ⊢
        refine (HR.out _).mono ?_
        rintro e w' ⟨rfl, hb⟩
        have HB1 := Lib.hid (HW.out.trans ((k1.out.trans (hb.mono k1.out.size)).mono HW.out.size))
        clear hb
        go_wp2
        go_ret2
        exact ⟨_, [], by rw [HE1.out]; rfl, VRow.nil _ _, .inr ⟨by rw [HE1.out]; exact H0.out, rfl⟩, HB1.out⟩
    · have p1 : decide ((i : Int) < (low.length : Int) + (all.length : Int)) = false := decide_eq_false (by omega)
      have HE0 := Lib.hid (show Pv.errOf (low ++ all) = 0 by
        have e : i = (low ++ all).length := by rw [HL.out]; omega
        rw [← HE.out, e, List.drop_length]; rfl)
      clear HE
      go_wp2_with fail
      go_loopw [9, 38] (fun u t wx => ∃ i : Nat, i ≤ low.length ∧ t = .int .i64 i ∧ VRow wx w.heap.size u ((low.take i).foldl (putO Pv.lt) []) ∧ Below w.heap.size w wx) (fun _ t _ => low.length - (intOf t).toNat)
      case atStart => exact ⟨0, Nat.zero_le _, rfl, by simpa using VRow.nil _ _, HW.out⟩
      case round =>
        obtain ⟨i, hil, rfl, hrow, hB⟩ := hrel
        have HB3 := Lib.hid hB
        have HO := Lib.hid hrow
        by_cases hi : i < low.length
        · obtain ⟨g, o, v, rfl, hg, hv, c0, c1, c2', c3, c4, c5⟩ := (HX.out.grow HB3.out).at_ hi
          have p1 : decide ((i : Int) < (low.length : Int)) = true := decide_eq_true (by omega)
          have p2 : decide (i < low.length) = true := decide_eq_true hi
          have hfl := putO_fold_len (low.take i) []
          rw [List.length_take, List.length_nil] at hfl
          have HF := Lib.hid (putO_fold_snoc hv)
          have hp := put_any w.heap.size u9 ((low.take i).foldl (putO Pv.lt) []) v
          unfold vv at hp
          have HP := Lib.hid hp
          clear hp hrow hB hv
          have k1 := Lib.hid ((Below.refl wr.heap.size wr).alloc (Nat.le_refl _) (.cells #[.int .i64 v.tag, .string (bs v.text), .int .u64 v.bits, .string (bs v.cls), .string (bs v.name), .string (bs v.desc)] 25))
          go_wp2_with fail
          refine (HP.out _ (HO.out.grow k1.out) (by omega) (Nat.le_trans HB3.out.size k1.out.size)).mono ?_
          rintro e w' ⟨u', rfl, _, hr, hb⟩
          rw [← HF.out] at hr
          have HR1 := Lib.hid hr
          have HC := Lib.hid (HB3.out.trans ((k1.out.trans (hb.mono k1.out.size)).mono HB3.out.size))
          clear hb hr
          go_wp2
          go_roundw
          case rel => exact ⟨i + 1, by omega, by go_num, HR1.out, HC.out⟩
          case measure => simp [intOf]; omega
        · obtain rfl : i = low.length := by omega
          have p1 : decide ((low.length : Int) < (low.length : Int)) = false := decide_eq_false (by omega)
          have p2 : decide (low.length < low.length) = false := decide_eq_false (by omega)
          rw [List.take_length] at hrow
          have HF := Lib.hid (show VRow wr w.heap.size u9 (sd Pv.lt low) from hrow)
          have hfl := putO_fold_len low []
          rw [List.length_nil, Nat.zero_add, show low.foldl (putO Pv.lt) [] = sd Pv.lt low from rfl] at hfl
          replace hrow : VRow wr w.heap.size u9 (sd Pv.lt low) := hrow
          obtain ⟨A9, c9, rfl, hV9, hA9⟩ := hrow.reads
          have HV9 := Lib.hid hV9
          clear hA9 hV9 hrow hB HO
          generalize hS : sd Pv.lt low = F at *
          have HS := Lib.hid hS
          clear hS
          go_wp2_with (first
            | (at_builtin; refine wpList_appV rfl _ _ rfl wr.heap.size (.slice (some ⟨_, 0, none⟩) 0 0) [] rfl (fresh0 (heap_alloc_new _ _) (Nat.le_refl _)) _ F rfl (HV9.out.src ((Below.refl _ _).alloc (Nat.le_refl _) _)) (by simp; omega) (by simp) ?_; intro v3 w3 hr3 hp3
               have hb3 : Below wr.heap.size wr w3 := Below.trans ((Below.refl _ _).alloc (Nat.le_refl _) _) (hp3.below (by simp) (fun k hk => by cases hk; simp))
               have HB4 := Lib.hid hb3; clear hb3)
            | (at_builtin; refine wpList_appV rfl _ _ rfl wr.heap.size _ ([] ++ F) rfl hr3 _ all rfl (HY.out.src (Below.trans HB3.out (HB4.out.mono HB3.out.size))) (by simp; omega) HB4.out.size ?_; intro v4 w4 hr4 hp4
               have hb4 : Below wr.heap.size wr w4 := HB4.out.trans (hp4.below HB4.out.size (fun k hk => hr3.base_le hk))
               rw [List.nil_append] at hr4
               have HR4 := Lib.hid hr4; have HB5 := Lib.hid hb4; clear hb4 hp4 hr4 hr3 hp3 HB4))
          clear HV9
          have HB6 := Lib.hid (HB3.out.trans (HB5.out.mono HB3.out.size))
          have HST := Lib.hid (show OrdSt low all F w (.slice A9 F.length c9) (.slice none 0 0) v4 14000 w4 from
            ⟨[], F ++ all, by have := wts_le (F ++ all); rw [List.length_append] at this; omega, by have := wts_le (F ++ all); rw [List.length_append] at this; simp; omega,
             Todo.begin (fun x => by rw [← HS.out]; exact sd_mem Pv.lin _ _), HF.out.grow HB5.out, VRow.nil _ _, (VOff.of HR4.out).lower HB3.out.size, fun k hk u hu => by
               simp only [List.mem_cons, List.not_mem_nil, or_false] at hu
               rcases hu with rfl | rfl
               · intro e
                 have h1 := HR4.out.base_le hk
                 have h2 := HF.out.lt e
                 omega
               · simp [Value.ownBlock], HB6.out⟩)
          clear HF HR4 HB5 HB6 HB3
          go_loopg [10, 13] 14000 (fun g u t wx => OrdSt low all F w (.slice A9 F.length c9) u t g wx)
          case atStart => exact HST.out
          case round =>
            clear HST
            obtain ⟨R, T, hg, hlen, hT, h9, h10, h13, hap, hB⟩ := hrel
            have HB := Lib.hid hB
            have HT := Lib.hid hT
            have H9 := Lib.hid h9
            have H10 := Lib.hid h10
            have H13 := Lib.hid h13
            have HAP := Lib.hid hap
            clear hT h9 h10 h13 hap hB
            cases T with
            | nil =>
              obtain ⟨A13, c13, rfl, hV13⟩ := H13.out.reads
              obtain ⟨A10, c10, rfl, hV10, hA10⟩ := H10.out.reads
              have HV10 := Lib.hid hV10
              have HORD := Lib.hid (show F ++ R = Pv.ord low all by rw [HT.out.fin, ← HS.out]; rfl)
              clear hV13 hV10 hA10 H10 HAP H13
              have hrl : R.length ≤ 14000 := by omega
              have p0 : decide ((0 : Int) < ((0 : Nat) : Int)) = false := rfl
              simp only [List.length_nil]
              have k1 := Lib.hid ((Below.refl wr.heap.size wr).alloc (Nat.le_refl _) (.cells #[.int .i64 0, .string ⟨#[]⟩, .int .u64 0, .string ⟨#[]⟩, .string ⟨#[]⟩, .string ⟨#[]⟩] 25))
              have hLl : (Pv.ord low all).length ≤ 15000 := by rw [← HORD.out, List.length_append]; omega
              obtain ⟨L, hL⟩ : ∃ L, L = Pv.ord low all := ⟨_, rfl⟩
              rw [← hL] at HORD hLl
              have HLE := Lib.hid hL
              clear hL
              go_wp2_with (at_builtin; refine wpList_appV rfl _ _ rfl w.heap.size (.slice A9 F.length c9) F rfl (H9.out.grow k1.out) _ R rfl (HV10.out.src k1.out) (by omega) (Nat.le_trans HB.out.size k1.out.size) ?_; intro v5 x5 hr5 hp5; rw [HORD.out] at hr5; obtain ⟨A5, c5, rfl, hV5, hA5⟩ := hr5.reads; clear hV5 hA5)
              have K5 := Lib.hid hr5
              have R17 := Lib.hid (VRow.kept (xs := [Pv.zero]) (vrow_of_block (base := w.heap.size) (heap_alloc_new wr (.cells #[.int .i64 0, .string ⟨#[]⟩, .int .u64 0, .string ⟨#[]⟩, .string ⟨#[]⟩, .string ⟨#[]⟩] 25)) HB.out.size [Pv.zero] rfl rfl (by simp)) hp5.1 (fun k hk e => by
                cases hk
                exact Nat.lt_irrefl _ (show wr.heap.size < wr.heap.size from H9.out.lt e)))
              have AP := Lib.hid (show ApartOf (.slice (some ⟨wr.heap.size, 0, none⟩) 1 1) [.slice A5 L.length c5] from fun k hk u hu => by
                cases hk
                simp only [List.mem_cons, List.not_mem_nil, or_false] at hu
                subst hu
                intro e
                rcases hp5.2 with h2 | ⟨g5, hg5, h2⟩
                · rw [h2] at e
                  exact Nat.lt_irrefl _ (show wr.heap.size < wr.heap.size from H9.out.lt e)
                · rw [h2] at e
                  obtain rfl : g5 = wr.heap.size := Option.some.inj e
                  rw [World.size_alloc] at hg5
                  exact Nat.not_succ_le_self _ hg5)
              have SB := Lib.hid ((HB.out.trans (k1.out.mono HB.out.size)).trans (hp5.below (Nat.le_trans HB.out.size k1.out.size) (fun k hk => H9.out.base_le hk)))
              clear hr5 hp5
              have HST := Lib.hid (show ∃ i : Nat, i ≤ L.length ∧ (Value.int .i64 0) = .int .i64 i ∧ VRow x5 w.heap.size (.slice (some ⟨wr.heap.size, 0, none⟩) 1 1) (Pv.zero :: (L.take i).flatMap Pv.slot) ∧ ApartOf (.slice (some ⟨wr.heap.size, 0, none⟩) 1 1) [.slice A5 L.length c5] ∧ VRow x5 w.heap.size (.slice A5 L.length c5) L ∧ Below w.heap.size w x5 from
                ⟨0, Nat.zero_le _, rfl, by simpa using R17.out, AP.out, K5.out, SB.out⟩)
              clear R17 AP K5 SB k1
              obtain ⟨wq, rfl⟩ : ∃ wq, wq = wr := ⟨_, rfl⟩
              go_loopw [17, 107] (fun t u wx => ∃ i : Nat, i ≤ L.length ∧ u = .int .i64 i ∧ VRow wx w.heap.size t (Pv.zero :: (L.take i).flatMap Pv.slot) ∧ ApartOf t [.slice A5 L.length c5] ∧ VRow wx w.heap.size (.slice A5 L.length c5) L ∧ Below w.heap.size w wx) (fun _ u _ => L.length - (intOf u).toNat)
              case atStart => exact HST.out
              case round =>
                obtain ⟨j, hjl, rfl, ht, hap, h5, hB⟩ := hrel
                have M17 := Lib.hid ht
                have MAP := Lib.hid hap
                have M5 := Lib.hid h5
                have MB := Lib.hid hB
                clear ht hap h5 hB HST
                by_cases hj : j < L.length
                · obtain ⟨g2, o2, v, e5, hg2, hx, e0, e1, e2, e3, e4, e5'⟩ := M5.out.vals.at_ hj
                  subst e5
                  have p1 : decide ((j : Int) < (L.length : Int)) = true := decide_eq_true (by omega)
                  have p2 : decide (j < L.length) = true := decide_eq_true hj
                  have HSL := Lib.hid (slot_snoc hx)
                  have k1 := Lib.hid ((Below.refl wr.heap.size wr).alloc (Nat.le_refl _) (.cells #[.int .i64 v.tag, .string (bs v.text), .int .u64 v.bits, .string (bs v.cls), .string (bs v.name), .string (bs v.desc)] 25))
                  have k2 := Lib.hid (k1.out.alloc k1.out.size (.cells #[.int .i64 v.tag, .string (bs v.text), .int .u64 v.bits, .string (bs v.cls), .string (bs v.name), .string (bs v.desc)] 25))
                  have q1 := Lib.hid ((vbox_new wr v).keep ((Below.refl _ _).alloc (Nat.le_refl _) (.cells #[.int .i64 v.tag, .string (bs v.text), .int .u64 v.bits, .string (bs v.cls), .string (bs v.name), .string (bs v.desc)] 25)) (vbox_new wr v).lt)
                  have hfl := slots_len_le (L.take j)
                  rw [List.length_take] at hfl
                  have hfl2 : (Pv.zero :: (L.take j).flatMap Pv.slot).length ≤ 30001 := Nat.le_trans hfl (by omega)
                  have hbw : w.heap.size ≤ wr.heap.size := MB.out.size
                  clear hx hfl
                  generalize hOut : Pv.zero :: (L.take j).flatMap Pv.slot = O at *
                  have HOU := Lib.hid hOut
                  clear hOut
                  have hwide : (v.wide = true ∧ ((v.tag == 5) = true ∨ (v.tag == 5) = false ∧ (v.tag == 6) = true)) ∨ (v.wide = false ∧ (v.tag == 5) = false ∧ (v.tag == 6) = false) := by
                    unfold Pv.wide
                    cases v.tag == 5 <;> cases v.tag == 6 <;> simp
                  rcases hwide with ⟨hw, ht⟩ | ⟨hw, t5, t6⟩
                  · have HSL2 := Lib.hid (show Pv.zero :: (L.take (j + 1)).flatMap Pv.slot = O ++ [v] ++ [v] by
                      rw [HSL.out, ← HOU.out]; unfold Pv.slot; rw [if_pos hw]; simp)
                    clear hw
                    have more : ∀ (x6 x7 : World) (v6 v7 : Value), Hid (VRow x6 w.heap.size v6 (O ++ [v])) → Hid (VRow x6 w.heap.size (.slice (some ⟨g2, o2, none⟩) L.length c5) L) → Hid (ApartOf v6 [.slice (some ⟨g2, o2, none⟩) L.length c5]) → Hid (Below w.heap.size w x6) →
                        VRow x7 w.heap.size v7 (O ++ [v] ++ [v]) → Hop (x6.alloc (.cells #[.int .i64 v.tag, .string (bs v.text), .int .u64 v.bits, .string (bs v.cls), .string (bs v.name), .string (bs v.desc)] 25)) x7 v6.ownBlock v7.ownBlock →
                        Hid (VRow x7 w.heap.size (.slice (some ⟨g2, o2, none⟩) L.length c5) L) ∧ Hid (ApartOf v7 [.slice (some ⟨g2, o2, none⟩) L.length c5]) ∧ Hid (Below w.heap.size w x7) := by
                      intro x6 x7 v6 v7 h1 h2 h3 h4 h5 h6
                      have ka := (Below.refl x6.heap.size x6).alloc (Nat.le_refl _) (.cells #[.int .i64 v.tag, .string (bs v.text), .int .u64 v.bits, .string (bs v.cls), .string (bs v.name), .string (bs v.desc)] 25)
                      refine ⟨Lib.hid ((h2.out.grow ka).hop h6 h3.out (by simp)), Lib.hid (h3.out.hop h6 (fun u hu k e => by
                        simp only [List.mem_cons, List.not_mem_nil, or_false] at hu
                        subst hu
                        exact (h2.out.grow ka).lt e)), Lib.hid ((h4.out.trans (ka.mono h4.out.size)).trans (h6.below (Nat.le_trans h4.out.size ka.size) (fun k hk => h1.out.base_le hk)))⟩
                    rcases ht with t5 | ⟨t5, t6⟩ <;>
                    · go_wp2_with (first
                        | (at_builtin; refine wpList_appV rfl _ _ rfl w.heap.size u17 O rfl (M17.out.grow k2.out) _ [v] rfl (src_val (heap_alloc2_new wr _ _) 1) (by simp; omega) (by simp; omega) ?_; intro v6 x6 hr6 hp6; have q2 : VBox x6 wr.heap.size v := (hp6.1.block _ (by simp; omega) (fun e => Nat.lt_irrefl _ (M17.out.lt e.symm))).trans q1.out; obtain ⟨d0, d1, d2, d3, d4, d5⟩ := q2.at_; have hqs := q2.lt; have N17 := Lib.hid hr6; have S5 := Lib.hid ((M5.out.grow k2.out).hop hp6 MAP.out (by simp)); have SAP := Lib.hid (MAP.out.hop hp6 (fun u hu k e => by (simp only [List.mem_cons, List.not_mem_nil, or_false] at hu; subst hu; exact (M5.out.grow k2.out).lt e))); have SB := Lib.hid ((MB.out.trans (k2.out.mono MB.out.size)).trans (hp6.below (Nat.le_trans MB.out.size k2.out.size) (fun k hk => M17.out.base_le hk))); clear hr6 hp6 q2)
                        | (at_builtin; refine wpList_appV rfl _ _ rfl w.heap.size v6 (O ++ [v]) rfl (N17.out.grow ((Below.refl _ _).alloc (Nat.le_refl _) _)) _ [v] rfl (src_val (heap_alloc_new _ _) 1) (by simp; omega) (by have := SB.out.size; simp; omega) ?_; intro v7 x7 hr7 hp7))
                      obtain ⟨z1, z2, z3⟩ := more _ _ _ _ N17 S5 SAP SB hr7 hp7
                      have Z17 := Lib.hid hr7
                      clear hr7 hp7 more
                      go_roundw
                      case rel => exact ⟨j + 1, by omega, by go_num, by rw [HSL2.out]; exact Z17.out, z2.out, z1.out, z3.out⟩
                      case measure => simp [intOf]; omega
                  · have HSL2 := Lib.hid (show Pv.zero :: (L.take (j + 1)).flatMap Pv.slot = O ++ [v] by
                      rw [HSL.out, ← HOU.out]; unfold Pv.slot; rw [hw]; simp)
                    clear hw
                    go_wp2_with (at_builtin; refine wpList_appV rfl _ _ rfl w.heap.size u17 O rfl (M17.out.grow k2.out) _ [v] rfl (src_val (heap_alloc2_new wr _ _) 1) (by simp; omega) (by simp; omega) ?_; intro v6 x6 hr6 hp6; have q2 : VBox x6 wr.heap.size v := (hp6.1.block _ (by simp; omega) (fun e => Nat.lt_irrefl _ (M17.out.lt e.symm))).trans q1.out; obtain ⟨d0, d1, d2, d3, d4, d5⟩ := q2.at_; have hqs := q2.lt; have N17 := Lib.hid hr6; have S5 := Lib.hid ((M5.out.grow k2.out).hop hp6 MAP.out (by simp)); have SAP := Lib.hid (MAP.out.hop hp6 (fun u hu k e => by (simp only [List.mem_cons, List.not_mem_nil, or_false] at hu; subst hu; exact (M5.out.grow k2.out).lt e))); have SB := Lib.hid ((MB.out.trans (k2.out.mono MB.out.size)).trans (hp6.below (Nat.le_trans MB.out.size k2.out.size) (fun k hk => M17.out.base_le hk))); clear hr6 hp6 q2)
                    go_roundw
                    case rel => exact ⟨j + 1, by omega, by go_num, by rw [HSL2.out]; exact N17.out, SAP.out, S5.out, SB.out⟩
                    case measure => simp [intOf]; omega
                · obtain rfl : j = L.length := by omega
                  have p1 : decide ((L.length : Int) < (L.length : Int)) = false := decide_eq_false (by omega)
                  have p2 : decide (L.length < L.length) = false := decide_eq_false (by omega)
                  rw [List.take_length] at M17
                  have hsl := slots_len_le L
                  have M : Hid (VRow wr w.heap.size u17 (Pv.slots L)) := M17
                  obtain ⟨A17, c17, rfl, hV17, hA17⟩ := M.out.reads
                  clear hV17 hA17 M17
                  generalize hSS : Pv.slots L = S at *
                  have HSS := Lib.hid hSS.symm
                  clear hSS
                  have p3 : decide ((65535 : Int) < (S.length : Int)) = false := decide_eq_false (by omega)
                  go_wp2
                  go_ret2
                  exact ⟨_, S, by rw [HE0.out]; rfl, M.out, .inl ⟨HE0.out, by rw [← HLE.out]; exact HSS.out⟩, MB.out⟩
            | cons v T =>
              obtain ⟨g, o, c', rfl, hbg, hgl, hc', hva, hnx⟩ := H13.out.next
              obtain ⟨c0, c1, c2', c3, c4, c5⟩ := hva
              obtain ⟨P, hP⟩ : ∃ P : Addr, (if c' = 1 then (⟨g, o, none⟩ : Addr) else ⟨g, o + 6, none⟩) = P := ⟨_, rfl⟩
              have hPb : P.block = g := by rw [← hP]; split <;> rfl
              rw [hP] at hnx
              have HN := Lib.hid hnx
              have HPB := Lib.hid hPb
              clear hnx hPb
              obtain ⟨A10, c10, rfl, hV10, hA10⟩ := H10.out.reads
              obtain ⟨A9', c9', e9, hV9, hA9⟩ := H9.out.reads
              cases e9
              have HV10 := Lib.hid hV10
              have HV9 := Lib.hid hV9
              clear hV10 hV9 hA9 hA10
              have HH9 := Lib.hid (fun x w h => has_any A9 c9 F x w h (by omega))
              have HH10 := Lib.hid (fun x w h => has_any A10 c10 R x w h (by omega))
              have HND := Lib.hid (fun x w => rneeds_any x w)
              unfold vv at HH9 HH10 HND
              have k1 := Lib.hid ((Below.refl wr.heap.size wr).alloc (Nat.le_refl _) (.cells #[.int .i64 v.tag, .string (bs v.text), .int .u64 v.bits, .string (bs v.cls), .string (bs v.name), .string (bs v.desc)] 25))
              have q1 := Lib.hid (vbox_new wr v)
              have HG := Lib.hid (HAP.out g rfl)
              clear HAP H13
              go_wp2_with fail
              rename_i h
              have h13 : VOff wr w.heap.size (.slice (some ⟨g, o, none⟩) T.length 0) T := by
                have := HN.out
                rw [← hP, if_pos h, h] at this; exact this
              have HN13 := Lib.hid h13
              have HB13 := Lib.hid (show (Value.slice (some ⟨g, o, none⟩) T.length 0).ownBlock = some g from rfl)
              clear h13 h HN hP HPB
              generalize Value.slice (some ⟨g, o, none⟩) T.length 0 = t13 at *
              rotate_left
              rename_i h
              have h13 : VOff wr w.heap.size (.slice (some ⟨g, o + 6, none⟩) T.length (c' - 1)) T := by
                have := HN.out
                rw [← hP, if_neg h] at this; exact this
              have HN13 := Lib.hid h13
              have HB13 := Lib.hid (show (Value.slice (some ⟨g, o + 6, none⟩) T.length (c' - 1)).ownBlock = some g from rfl)
              clear h13 h HN hP HPB
              generalize Value.slice (some ⟨g, o + 6, none⟩) T.length (c' - 1) = t13 at *
              all_goals
                generalize wr.alloc (.cells #[.int .i64 v.tag, .string (bs v.text), .int .u64 v.bits, .string (bs v.cls), .string (bs v.name), .string (bs v.desc)] 25) = W at k1 q1 ⊢
                refine (HH9.out v W (HV9.out.grow k1.out)).mono ?_
                rintro e x1 ⟨rfl, hb1⟩
                have J1 := Lib.hid (k1.out.trans (hb1.mono k1.out.size))
                have q2 := Lib.hid (q1.out.keep hb1 q1.out.lt)
                clear hb1 k1 q1
                have hTl := wts_len T
                have hwv := wt_pos v
                rw [wts_cons] at hg hlen
                by_cases hvF : v ∈ F
                · have hd : decide (v ∈ F) = true := decide_eq_true hvF
                  have HVF := Lib.hid hvF
                  rw [hd]
                  clear hd hvF
                  obtain ⟨d0, d1, d2, d3, d4, d5⟩ := q2.out.at_
                  go_wp2_with fail
                  refine (HH9.out v x1 (HV9.out.grow J1.out)).mono ?_
                  rintro e x2 ⟨rfl, hb2⟩
                  have hd : decide (v ∈ F) = true := decide_eq_true HVF.out
                  rw [hd]
                  have q3 := Lib.hid (q2.out.keep hb2 q2.out.lt)
                  have J2 := Lib.hid (J1.out.trans (hb2.mono J1.out.size))
                  clear hb2 hd d0 d1 d2 d3 d4 d5 q2
                  obtain ⟨d0, d1, d2, d3, d4, d5⟩ := q3.out.at_
                  go_wp2_with fail
                  refine (HND.out v x2).mono ?_
                  rintro e x3 ⟨u80, rfl, hr80, hb3⟩
                  have J3 := Lib.hid (J2.out.trans (hb3.mono J2.out.size))
                  obtain ⟨A80, c80, rfl, hV80, hA80⟩ := hr80.reads
                  have H80 := Lib.hid hr80
                  clear hb3 hr80 hV80 hA80 d0 d1 d2 d3 d4 d5
                  go_wp2_with fail
                  have HST := Lib.hid (show ∃ i : Nat, i ≤ v.needs.length ∧ (Value.int .i64 0) = .int .i64 i ∧ VOff x3 w.heap.size t13 (T ++ lacks F R (v.needs.take i)) ∧ ApartOf t13 [.slice A9 F.length c9, .slice A10 R.length c10, .slice A80 v.needs.length c80] ∧
                      VRow x3 w.heap.size (.slice A9 F.length c9) F ∧ VRow x3 w.heap.size (.slice A10 R.length c10) R ∧ VRow x3 w.heap.size (.slice A80 v.needs.length c80) v.needs ∧ Below w.heap.size w x3 from by
                    refine ⟨0, Nat.zero_le _, rfl, by simpa [lacks] using HN13.out.grow J3.out, fun k hk u hu => ?_, H9.out.grow J3.out, H10.out.grow J3.out, H80.out.lower (Nat.le_trans HB.out.size J2.out.size), HB.out.trans (J3.out.mono HB.out.size)⟩
                    rw [HB13.out] at hk
                    cases hk
                    simp only [List.mem_cons, List.not_mem_nil, or_false] at hu
                    rcases hu with rfl | rfl | rfl
                    · exact HG.out _ (by simp)
                    · exact HG.out _ (by simp)
                    · intro e
                      have h1 := H80.out.base_le e
                      have h2 := J2.out.size
                      omega)
                  clear H80 J3 J2 J1 HN13 HB13 q3
                  obtain ⟨wq, rfl⟩ : ∃ wq, wq = wr := ⟨_, rfl⟩
                  go_loopw [13, 82] (fun t u wx => ∃ i : Nat, i ≤ v.needs.length ∧ u = .int .i64 i ∧ VOff wx w.heap.size t (T ++ lacks F R (v.needs.take i)) ∧ ApartOf t [.slice A9 F.length c9, .slice A10 R.length c10, .slice A80 v.needs.length c80] ∧
                      VRow wx w.heap.size (.slice A9 F.length c9) F ∧ VRow wx w.heap.size (.slice A10 R.length c10) R ∧ VRow wx w.heap.size (.slice A80 v.needs.length c80) v.needs ∧ Below w.heap.size w wx) (fun _ u _ => v.needs.length - (intOf u).toNat)
                  case atStart => exact HST.out
                  case round =>
                    obtain ⟨j, hjl, rfl, ht, hap, h9, h10, h80, hB⟩ := hrel
                    have M13 := Lib.hid ht
                    have MAP := Lib.hid hap
                    have M9 := Lib.hid h9
                    have M10 := Lib.hid h10
                    have M80 := Lib.hid h80
                    have MB := Lib.hid hB
                    clear ht hap h9 h10 h80 hB HST
                    have hnl := v.needs_len
                    by_cases hj : j < v.needs.length
                    · obtain ⟨g2, o2, x, e80, hg2, hx, e0, e1, e2, e3, e4, e5⟩ := M80.out.vals.at_ hj
                      subst e80
                      have p1 : decide ((j : Int) < (v.needs.length : Int)) = true := decide_eq_true (by omega)
                      have p2 : decide (j < v.needs.length) = true := decide_eq_true hj
                      have HLS := Lib.hid (lacks_snoc (F := F) (R := R) hx)
                      have k1 := Lib.hid ((Below.refl wr.heap.size wr).alloc (Nat.le_refl _) (.cells #[.int .i64 x.tag, .string (bs x.text), .int .u64 x.bits, .string (bs x.cls), .string (bs x.name), .string (bs x.desc)] 25))
                      have q1 := Lib.hid (vbox_new wr x)
                      clear hx
                      go_wp2_with fail
                      generalize wr.alloc (.cells #[.int .i64 x.tag, .string (bs x.text), .int .u64 x.bits, .string (bs x.cls), .string (bs x.name), .string (bs x.desc)] 25) = W at k1 q1 ⊢
                      refine (HH9.out x W (M9.out.vals.grow k1.out)).mono ?_
                      rintro e y1 ⟨rfl, hb1⟩
                      have J1 := Lib.hid (k1.out.trans (hb1.mono k1.out.size))
                      have q2 := Lib.hid (q1.out.keep hb1 q1.out.lt)
                      clear hb1 k1 q1 e0 e1 e2 e3 e4 e5
                      have hqs := q2.out.lt
                      by_cases hxF : x ∈ F
                      · have hd : decide (x ∈ F) = true := decide_eq_true hxF
                        have HLS2 := Lib.hid (HLS.out.trans (by rw [if_neg (fun h => h.1 hxF), List.append_nil]))
                        rw [hd]
                        clear hd hxF
                        obtain ⟨d0, d1, d2, d3, d4, d5⟩ := q2.out.at_
                        go_wp2_with fail
                        go_roundw
                        case rel => exact ⟨j + 1, by omega, by go_num, by rw [HLS2.out]; exact M13.out.grow J1.out, MAP.out, M9.out.grow J1.out, M10.out.grow J1.out, M80.out.grow J1.out, MB.out.trans (J1.out.mono MB.out.size)⟩
                        case measure => simp [intOf]; omega
                      · have hd : decide (x ∈ F) = false := decide_eq_false hxF
                        have HXF := Lib.hid hxF
                        rw [hd]
                        clear hd hxF
                        obtain ⟨d0, d1, d2, d3, d4, d5⟩ := q2.out.at_
                        go_wp2_with fail
                        refine (HH10.out x y1 (M10.out.vals.grow J1.out)).mono ?_
                        rintro e y2 ⟨rfl, hb2⟩
                        have J2 := Lib.hid (J1.out.trans (hb2.mono J1.out.size))
                        have q3 := Lib.hid (q2.out.keep hb2 q2.out.lt)
                        clear hb2 d0 d1 d2 d3 d4 d5 q2 hqs
                        have hqs := q3.out.lt
                        by_cases hxR : x ∈ R
                        · have hd : decide (x ∈ R) = true := decide_eq_true hxR
                          have HLS2 := Lib.hid (HLS.out.trans (by rw [if_neg (fun h => h.2 hxR), List.append_nil]))
                          rw [hd]
                          clear hd hxR
                          go_wp2_with fail
                          go_roundw
                          case rel => exact ⟨j + 1, by omega, by go_num, by rw [HLS2.out]; exact M13.out.grow J2.out, MAP.out, M9.out.grow J2.out, M10.out.grow J2.out, M80.out.grow J2.out, MB.out.trans (J2.out.mono MB.out.size)⟩
                          case measure => simp [intOf]; omega
                        · have hd : decide (x ∈ R) = false := decide_eq_false hxR
                          have HLS2 := Lib.hid (HLS.out.trans (by rw [if_pos ⟨HXF.out, hxR⟩]))
                          rw [hd]
                          clear hd hxR
                          have hll : (lacks F R (v.needs.take j)).length ≤ 2 := Nat.le_trans (List.length_filter_le _ _) (by rw [List.length_take]; omega)
                          have hbw : w.heap.size ≤ y2.heap.size := Nat.le_trans MB.out.size J2.out.size
                          obtain ⟨d0, d1, d2, d3, d4, d5⟩ := q3.out.at_
                          go_wp2_with (at_builtin; refine wpList_appO rfl _ _ rfl w.heap.size u13 (T ++ lacks F R (v.needs.take j)) rfl ((M13.out.grow J2.out).grow ((Below.refl _ _).alloc (Nat.le_refl _) _)) _ [x] rfl (src_val (heap_alloc_new _ _) 1) (by rw [List.length_append]; simp; omega) (by simp; omega) ?_; intro v5 y3 hr5 hp5)
                          have KB := Lib.hid ((Below.refl y2.heap.size y2).alloc (Nat.le_refl _) (.cells #[.int .i64 x.tag, .string (bs x.text), .int .u64 x.bits, .string (bs x.cls), .string (bs x.name), .string (bs x.desc)] 25))
                          have S13 := Lib.hid hr5
                          have SP := Lib.hid hp5
                          have J3 := Lib.hid (Below.trans (J2.out.mono (Nat.le_refl _)) (KB.out.mono J2.out.size))
                          have S9 := Lib.hid ((M9.out.grow J3.out).hop hp5 MAP.out (by simp))
                          have S10 := Lib.hid ((M10.out.grow J3.out).hop hp5 MAP.out (by simp))
                          have S80 := Lib.hid ((M80.out.grow J3.out).hop hp5 MAP.out (by simp))
                          have SAP := Lib.hid (MAP.out.hop hp5 (fun u hu k e => by
                            simp only [List.mem_cons, List.not_mem_nil, or_false] at hu
                            rcases hu with rfl | rfl | rfl
                            · exact (M9.out.grow J3.out).lt e
                            · exact (M10.out.grow J3.out).lt e
                            · exact (M80.out.grow J3.out).lt e))
                          have SB := Lib.hid ((MB.out.trans (J3.out.mono MB.out.size)).trans (hp5.below (Nat.le_trans MB.out.size J3.out.size) (fun k hk => (M13.out.base_le hk).1)))
                          clear hr5 hp5 d0 d1 d2 d3 d4 d5 hqs
                          go_roundw
                          case rel => exact ⟨j + 1, by omega, by go_num, by rw [HLS2.out, ← List.append_assoc]; exact S13.out, SAP.out, S9.out, S10.out, S80.out, SB.out⟩
                          case measure => simp [intOf]; omega
                    · obtain rfl : j = v.needs.length := by omega
                      have p1 : decide ((v.needs.length : Int) < (v.needs.length : Int)) = false := decide_eq_false (by omega)
                      have p2 : decide (v.needs.length < v.needs.length) = false := decide_eq_false (by omega)
                      have hw2 := wts_lacks F R v
                      have HT2 := Lib.hid (HT.out.lows HVF.out)
                      rw [List.take_length] at M13
                      go_wp2_with fail
                      go_roundg (gk - 1)
                      case measure => omega
                      case rel => exact ⟨R, T ++ lacks F R v.needs, by rw [wts_append]; omega, by rw [wts_append]; omega, HT2.out, M9.out, M10.out, M13.out, fun k hk u hu => MAP.out k hk u (by simp only [List.mem_cons, List.not_mem_nil, or_false] at hu ⊢; rcases hu with rfl | rfl <;> simp), MB.out⟩
                · have hd : decide (v ∈ F) = false := decide_eq_false hvF
                  have HVF := Lib.hid hvF
                  rw [hd]
                  clear hd hvF
                  obtain ⟨d0, d1, d2, d3, d4, d5⟩ := q2.out.at_
                  have hqs := q2.out.lt
                  go_wp2_with fail
                  refine (HH10.out v x1 (HV10.out.grow J1.out)).mono ?_
                  rintro e x2 ⟨rfl, hb2⟩
                  have q3 := Lib.hid (q2.out.keep hb2 q2.out.lt)
                  have J2 := Lib.hid (J1.out.trans (hb2.mono J1.out.size))
                  clear hb2 d0 d1 d2 d3 d4 d5 q2 hqs
                  obtain ⟨d0, d1, d2, d3, d4, d5⟩ := q3.out.at_
                  have hqs := q3.out.lt
                  by_cases hvR : v ∈ R
                  · have hd : decide (v ∈ R) = true := decide_eq_true hvR
                    have HT2 := Lib.hid (HT.out.old HVF.out hvR)
                    rw [hd]
                    clear hd hvR
                    go_wp2_with fail
                    refine (HH9.out v x2 (HV9.out.grow J2.out)).mono ?_
                    rintro e x3 ⟨rfl, hb3⟩
                    have hd : decide (v ∈ F) = false := decide_eq_false HVF.out
                    rw [hd]
                    have J3 := Lib.hid (J2.out.trans (hb3.mono J2.out.size))
                    clear hb3 hd d0 d1 d2 d3 d4 d5 q3 hqs
                    go_wp2_with fail
                    go_roundg (gk - 1)
                    case measure => omega
                    case rel => exact ⟨R, T, by omega, by omega, HT2.out, H9.out.grow J3.out, H10.out.grow J3.out, HN13.out.grow J3.out, fun k hk u hu => by
                      rw [HB13.out] at hk
                      cases hk
                      exact HG.out u hu, HB.out.trans (J3.out.mono HB.out.size)⟩
                  · have hd : decide (v ∈ R) = false := decide_eq_false hvR
                    have HVR := Lib.hid hvR
                    have HT2 := Lib.hid (HT.out.add HVF.out hvR)
                    have hwn := wts_needs v
                    have hnl := v.needs_len
                    have hpl := putO_len R v
                    have hPT := put_any w.heap.size (.slice A10 R.length c10) R v
                    unfold vv at hPT
                    have HPT := Lib.hid hPT
                    rw [hd]
                    clear hd hvR hPT
                    go_wp2_with fail
                    refine (HPT.out x2 (H10.out.grow J2.out) (by omega) (Nat.le_trans HB.out.size J2.out.size)).mono ?_
                    rintro e x3 ⟨u', rfl, hor, hr, hb3⟩
                    have HF10 := Lib.hid (show VRow x3 x2.heap.size u' (putO Pv.lt R v) by
                      rcases hor with ⟨h, _⟩ | ⟨_, h⟩
                      · exact absurd h HVR.out
                      · exact h)
                    have R10 := Lib.hid hr
                    have q4 := Lib.hid (q3.out.keep hb3 q3.out.lt)
                    have J3 := Lib.hid (J2.out.trans (hb3.mono J2.out.size))
                    clear hor hr hb3 d0 d1 d2 d3 d4 d5 q3 hqs
                    obtain ⟨d0, d1, d2, d3, d4, d5⟩ := q4.out.at_
                    have hqs := q4.out.lt
                    go_wp2_with fail
                    refine (HND.out v x3).mono ?_
                    rintro e x4 ⟨u74, rfl, hr74, hb4⟩
                    have J4 := Lib.hid (J3.out.trans (hb4.mono J3.out.size))
                    have JX := Lib.hid hb4
                    obtain ⟨A74, c74, rfl, hV74, hA74⟩ := hr74.reads
                    have HV74 := Lib.hid hV74
                    clear hb4 hr74 hV74 hA74 d0 d1 d2 d3 d4 d5 hqs q4
                    go_wp2_with (at_builtin; refine wpList_appO rfl _ _ rfl w.heap.size t13 T rfl (HN13.out.grow J4.out) _ v.needs rfl (HV74.out.src (Below.refl _ _)) (by omega) (Nat.le_trans HB.out.size J4.out.size) ?_; intro v5 x5 hr5 hp5)
                    have S13 := Lib.hid hr5
                    have AP := Lib.hid (show ApartOf t13 [.slice A9 F.length c9, u'] from fun k hk u hu => by
                      rw [HB13.out] at hk
                      cases hk
                      simp only [List.mem_cons, List.not_mem_nil, or_false] at hu
                      rcases hu with rfl | rfl
                      · exact HG.out _ (by simp)
                      · intro e
                        have h1 := HF10.out.base_le e
                        have h2 := J2.out.size
                        omega)
                    have S9 := Lib.hid ((H9.out.grow J4.out).hop hp5 AP.out (by simp))
                    have S10 := Lib.hid ((R10.out.grow JX.out).hop hp5 AP.out (by simp))
                    have SAP := Lib.hid (AP.out.hop hp5 (fun u hu k e => by
                      simp only [List.mem_cons, List.not_mem_nil, or_false] at hu
                      rcases hu with rfl | rfl
                      · exact (H9.out.grow J4.out).lt e
                      · exact (R10.out.grow JX.out).lt e))
                    have SB := Lib.hid ((HB.out.trans (J4.out.mono HB.out.size)).trans (hp5.below (Nat.le_trans HB.out.size J4.out.size) (fun k hk => (HN13.out.base_le hk).1)))
                    clear hr5 hp5
                    go_roundg (gk - 1)
                    case measure => omega
                    case rel => exact ⟨putO Pv.lt R v, T ++ v.needs, by rw [wts_append]; omega, by rw [wts_append]; omega, HT2.out, S9.out, S10.out, S13.out, SAP.out, SB.out⟩
end Go.Proofs.Ytekcfjfkbiciaaa
