/- Joined texts: PortS. -/
import Derived.Test.YtdmiljaiglaacaaPk12
import Derived.Test.YtdmiljaiglaacaaPk13
import Derived.Test.YtdmiljaiglaacaaPk5
/- The walk of layer 29's first law. -/
namespace Go.Proofs.Ytdmiljaiglaacaa
open Go.RowKit Go.Maps

/-- A thing with its row in bounds. -/
def Th.norm (t : Th) : Th := { t with row := t.row % 64 }
theorem norm_wants (t : Th) : t.norm.wants = t.wants := rfl
theorem norm_row (t : Th) : 0 ≤ t.norm.row ∧ t.norm.row < 64 := ⟨Int.emod_nonneg _ (by decide), Int.emod_lt_of_pos _ (by decide)⟩
theorem norm_val (x : Int) : wrap64 ((IntKind.u64.wrap x).tmod 64) = x % 64 := by
  have h1 : IntKind.u64.wrap x = x % 18446744073709551616 := by simp [IntKind.wrap, IntKind.bits, IntKind.signed]
  have h2 : 0 ≤ x % 18446744073709551616 := Int.emod_nonneg _ (by decide)
  rw [h1, Int.tmod_eq_emod_of_nonneg h2]
  unfold wrap64
  omega
/-- The rows of things, those ahead of i with their rows in bounds. -/
def mixT (l : List Th) (i : Nat) : List Th := (l.take i).map Th.norm ++ l.drop i
theorem mixT_zero (l : List Th) : mixT l 0 = l := by simp [mixT]
theorem mixT_all (l : List Th) : mixT l l.length = l.map Th.norm := by simp [mixT]
theorem mixT_at {l : List Th} {i : Nat} {t : Th} (h : l[i]? = some t) : (mixT l i)[i]? = some t := by
  obtain ⟨h1, rfl⟩ := List.getElem?_eq_some_iff.1 h
  unfold mixT
  rw [List.getElem?_append_right (by simp; omega)]
  simp [Nat.min_eq_left (Nat.le_of_lt h1), h1]
theorem mixT_set {l : List Th} {i : Nat} {t : Th} (h : l[i]? = some t) : (mixT l i).set i t.norm = mixT l (i + 1) := by
  obtain ⟨h1, rfl⟩ := List.getElem?_eq_some_iff.1 h
  unfold mixT
  rw [List.set_append_right _ _ (by simp; omega), List.drop_eq_getElem_cons h1, List.take_succ_eq_append_getElem h1, show i - ((l.take i).map Th.norm).length = 0 by simp; omega, List.set_cons_zero, List.map_append, List.append_assoc]
  rfl
/-- The copy of the things. -/
def TB (w : World) (A : Option Addr) (base : Nat) (l : List Th) : Prop := l.length = 0 ∨ ∃ g, A = some ⟨g, 0, none⟩ ∧ TBlk w g l ∧ base ≤ g
theorem TB.same {w w' : World} {A : Option Addr} {base : Nat} {l : List Th} (h : TB w A base l) (k : ∀ g, g < w.heap.size → A = some ⟨g, 0, none⟩ → TBlk w g l → w'.heap[g]? = w.heap[g]?) : TB w' A base l := by
  rcases h with h | ⟨g, h1, h2, h3⟩
  · exact .inl h
  · exact .inr ⟨g, h1, h2.same (k g h2.lt h1 h2), h3⟩
theorem TB.grow {w w' : World} {A : Option Addr} {base : Nat} {l : List Th} (h : TB w A base l) (k : Below w.heap.size w w') : TB w' A base l := h.same fun g hg _ _ => k.block g hg
/-- A row of values turns. -/
theorem TB.hop {w w' : World} {A : Option Addr} {base b2 : Nat} {l : List Th} {u : Value} {xs : List Pv} {o' : Option Nat} (h : TB w A base l) (hr : VRow w b2 u xs) (k : Hop w w' u.ownBlock o') : TB w' A base l :=
  h.same fun g hg _ hb => k.1.block g hg (by
    obtain ⟨cur, h1, _⟩ := hb
    exact own_ne hr h1 (by decide))
theorem wants_le (t : Th) : t.wants.length ≤ 1 := by
  unfold Th.wants
  have h7 : t.kind % 7 < 7 := Nat.mod_lt _ (by decide)
  generalize t.kind % 7 = q at h7
  obtain rfl | rfl | rfl | rfl | rfl | rfl | rfl : q = 0 ∨ q = 1 ∨ q = 2 ∨ q = 3 ∨ q = 4 ∨ q = 5 ∨ q = 6 := by omega
  all_goals first | (simp; done) | (show (if t.s = [] then [] else _ : List Pv).length ≤ 1; split <;> simp)
theorem wants_fits {t : Th} (h : t.fits) : ∀ v ∈ t.wants, v.fits := by
  unfold Th.wants
  have h7 : t.kind % 7 < 7 := Nat.mod_lt _ (by decide)
  generalize t.kind % 7 = q at h7
  have h1 : (⟨1, t.s, 0, [], [], []⟩ : Pv).fits := fits_text (by decide) h.2.2.2.1
  have h2 : (⟨7, t.s, 0, [], [], []⟩ : Pv).fits := fits_text (by decide) h.2.2.2.1
  obtain rfl | rfl | rfl | rfl | rfl | rfl | rfl : q = 0 ∨ q = 1 ∨ q = 2 ∨ q = 3 ∨ q = 4 ∨ q = 5 ∨ q = 6 := by omega
  · intro v hv; cases hv
  · intro v hv; rw [List.mem_singleton.1 hv]; exact h1
  · intro v hv
    have hv' : v ∈ (if t.s = [] then [] else [(⟨1, t.s, 0, [], [], []⟩ : Pv)]) := hv
    split at hv'
    · cases hv'
    · rw [List.mem_singleton.1 hv']; exact h1
  · intro v hv; rw [List.mem_singleton.1 hv]; exact h2
  · intro v hv
    have hv' : v ∈ (if t.s = [] then [] else [(⟨7, t.s, 0, [], [], []⟩ : Pv)]) := hv
    split at hv'
    · cases hv'
    · rw [List.mem_singleton.1 hv']; exact h2
  · intro v hv; rw [List.mem_singleton.1 hv]; exact h.2.2.2.2
  · intro v hv; cases hv
theorem wants_sum : ∀ (l : List Th), (l.flatMap Th.wants).length ≤ l.length
  | [] => by simp
  | t :: l => by
    rw [List.flatMap_cons, List.length_append, List.length_cons]
    have := wants_sum l
    have := wants_le t
    omega
theorem VRow.nil0 {w : World} {base : Nat} {v : Value} {xs : List Pv} (h : VRow w base v xs) : ∃ A c, v = .slice A xs.length c ∧ Vals w A c xs ∧ (A = none → c = 0) := by
  obtain ⟨A, c, e, hx, _⟩ := h.reads
  refine ⟨A, c, e, hx, fun hA => ?_⟩
  subst hA
  rcases h.2 with ⟨e2, _⟩ | ⟨g, cap, cur, e2, _⟩
  · rw [e] at e2; simp at e2; exact e2.2
  · rw [e] at e2; cases e2
theorem errOf_none : ∀ {l : List Pv}, (∀ v ∈ l, v.chk 0 9 5 = 0) → Pv.errOf l = 0
  | [], _ => rfl
  | v :: l, h => by
    unfold Pv.errOf
    rw [if_pos (h v (List.mem_cons_self ..))]
    exact errOf_none fun u hu => h u (List.mem_cons_of_mem _ hu)
theorem TB.at_ {w : World} {A : Option Addr} {base : Nat} {l : List Th} (h : TB w A base l) {i : Nat} (hi : i < l.length) : ∃ g t, A = some ⟨g, 0, none⟩ ∧ g < w.heap.size ∧ l[i]? = some t ∧ TAt w g (i * 10) t := by
  rcases h with h | ⟨g, h1, h2, h3⟩
  · omega
  · exact ⟨g, _, h1, h2.lt, List.getElem?_eq_getElem hi, h2.at_ (List.getElem?_eq_getElem hi)⟩
/-- What the first loop has found good. -/
def GoodT (t : Th) : Prop := (∀ v ∈ t.wants, v.chk 0 9 5 = 0) ∧ (t.kind % 7 = 6 → 0 ≤ t.n ∧ t.n ≤ 1000)
set_option maxRecDepth 100000 in
set_option maxHeartbeats 8000000 in
theorem law_any (A : Option Addr) (c : Nat) (l : List Th) (w : World) (hx : Ths w A c l) (hm : l.length ≤ 140737488355328) (hf : ∀ v ∈ l, v.fits) :
    Calls Try.prog 3 #[.slice A l.length c] w fun e w' => e = .returned (.bool true) ∧ Below w.heap.size w w' := by
  have HX := Lib.hid hx
  have HFT := Lib.hid hf
  have HF2 := Lib.hid (fun w h => tfew_any A c l w h hm hf)
  clear hx hf
  go_enter Try.func3, Try.ntmps3
  go_wp2_with fail
  refine (fixed_any w).mono ?_
  rintro e w1 ⟨rfl, hb1⟩
  have K1 := Lib.hid hb1
  clear hb1
  go_wp2_with fail
  refine (HF2.out w1 (HX.out.grow K1.out)).mono ?_
  rintro e w2 ⟨rfl, hb2⟩
  have K2 := Lib.hid (K1.out.trans (hb2.mono K1.out.size))
  clear hb2 K1 HF2
  cases f1 : Th.few l with
  | false =>
    go_wp2_with fail
    go_ret
    exact ⟨rfl, K2.out⟩
  | true =>
    have L1 : l.length ≤ 60 := by
      unfold Th.few at f1
      simp only [Bool.and_eq_true, decide_eq_true_eq] at f1
      exact f1.2
    clear f1 hm
    go_upto_region 6 with (at_builtin; refine wpList_appT rfl _ _ rfl w2.heap.size (.slice (some ⟨_, 0, none⟩) 0 0) rfl (tfresh0 (heap_alloc_new _ _) (Nat.le_refl _)) _ l rfl ((HX.out.grow K2.out).grow ((Below.refl _ _).alloc (Nat.le_refl _) _)).src (by omega) (by simp) ?_; intro v3 w3 hr3 hp3)
    obtain ⟨A3, c3, rfl, hT0⟩ : ∃ A3 c3, v3 = .slice A3 l.length c3 ∧ TB w3 A3 w2.heap.size (mixT l 0) := by
      rw [mixT_zero]
      rcases hr3.2 with ⟨h1, h2⟩ | ⟨g, cap, cur, h1, h2⟩
      · exact ⟨none, 0, by rw [h1, h2], .inl h2⟩
      · subst h1
        exact ⟨_, cap, rfl, .inr ⟨g, rfl, (TBlk.of hr3).1, (TBlk.of hr3).2⟩⟩
    have T0 := Lib.hid hT0
    have B0 := Lib.hid (show Below w2.heap.size w2 w3 from Below.trans ((Below.refl _ _).alloc (Nat.le_refl _) _) (hp3.below (by simp) (fun k hk => by cases hk; simp)))
    clear hr3 hp3 hT0
    go_wp2_with fail
    go_loopw [3, 29] (fun vs t wr => ∃ i : Nat, i ≤ l.length ∧ t = .int .i64 i ∧ TB wr A3 w2.heap.size (mixT l i) ∧ VRow wr w2.heap.size vs ((l.take i).flatMap Th.wants) ∧ (∀ t ∈ l.take i, GoodT t) ∧ Below w2.heap.size w2 wr) (fun _ t _ => l.length - (intOf t).toNat)
    case atStart => exact ⟨0, Nat.zero_le _, rfl, T0.out, VRow.nil _ _, (fun t h => by cases h), B0.out⟩
    case round =>
      obtain ⟨i, hil, rfl, hTB, hVR, hgood, hB⟩ := hrel
      have MT := Lib.hid hTB
      have MV := Lib.hid hVR
      have MG := Lib.hid hgood
      have MB := Lib.hid hB
      clear hTB hVR hgood hB
      by_cases hi : i < l.length
      · have ht := List.getElem?_eq_getElem hi
        obtain ⟨t, htt⟩ : ∃ t, t = l[i] := ⟨_, rfl⟩
        rw [← htt] at ht
        clear htt
        have p1 : decide ((i : Int) < (l.length : Int)) = true := decide_eq_true (by omega)
        have p2 : decide (i < l.length) = true := decide_eq_true hi
        obtain ⟨g, rfl, hb, hgb⟩ : ∃ g, A3 = some ⟨g, 0, none⟩ ∧ TBlk wr g (mixT l i) ∧ w2.heap.size ≤ g := by
          rcases MT.out with h | h
          · simp [mixT] at h; omega
          · exact h
        have k5 := (Below.refl wr.heap.size wr).alloc (Nat.le_refl _) (tobj t)
        obtain ⟨⟨e0, e1, e2, e3⟩, e4, e5, e6, e7, e8, e9⟩ := hb.at_ (mixT_at ht)
        have hgz := hb.lt
        have fz := hb.frozen (i * 10 + 1)
        have HNV := Lib.hid (norm_val t.row)
        go_upto_region 11 with fail
        rw [HNV.out]
        have g1 := setCell_turned wr g (i * 10 + 1) (.int .i64 (t.row % 64))
        have b1 := hb.set (mixT_at ht) (t.row % 64)
        have e1' := mixT_set ht
        unfold Th.norm at e1'
        rw [e1'] at b1
        have v1 : VRow (wr.setCell ⟨g, i * 10 + 1, none⟩ (.int .i64 (t.row % 64))) w2.heap.size u3 ((l.take i).flatMap Th.wants) := (show VRow wr _ _ _ from MV.out).kept g1 (by
          obtain ⟨cur, h1, _⟩ := hb
          have h2 := own_ne (show VRow wr w2.heap.size u3 _ from MV.out) h1 (by decide)
          exact fun k hk e => h2 (by rw [hk, e]))
        have k5 := (Below.refl (wr.setCell ⟨g, i * 10 + 1, none⟩ (.int .i64 (t.row % 64))).heap.size (wr.setCell ⟨g, i * 10 + 1, none⟩ (.int .i64 (t.row % 64)))).alloc (Nat.le_refl _) (tobj t)
        have T5 := Lib.hid (show TB ((wr.setCell ⟨g, i * 10 + 1, none⟩ (.int .i64 (t.row % 64))).alloc (tobj t)) (some ⟨g, 0, none⟩) w2.heap.size (mixT l (i + 1)) from (TB.grow (.inr ⟨g, rfl, b1, hgb⟩) k5))
        have V5 := Lib.hid (v1.grow k5)
        have Q5 := Lib.hid (show ThBox ((wr.setCell ⟨g, i * 10 + 1, none⟩ (.int .i64 (t.row % 64))).alloc (tobj t)) wr.heap.size t from by
          have := heap_alloc_new (wr.setCell ⟨g, i * 10 + 1, none⟩ (.int .i64 (t.row % 64))) (tobj t)
          rw [show (wr.setCell ⟨g, i * 10 + 1, none⟩ (.int .i64 (t.row % 64))).heap.size = wr.heap.size by simp] at this
          exact this)
        have B5 := Lib.hid (show Below w2.heap.size w2 ((wr.setCell ⟨g, i * 10 + 1, none⟩ (.int .i64 (t.row % 64))).alloc (tobj t)) from (MB.out.setCell (p := ⟨g, i * 10 + 1, none⟩) hgb _).alloc (by simp; exact MB.out.size) _)
        rw [show (wr.setCell ⟨g, i * 10 + 1, none⟩ (.int .i64 (t.row % 64))).alloc (.cells #[.int .u8 t.kind, .int .i64 t.row, .int .i64 t.n, .string (bs t.s), .int .i64 t.v.tag, .string (bs t.v.text), .int .u64 t.v.bits, .string (bs t.v.cls), .string (bs t.v.name), .string (bs t.v.desc)] 30) = (wr.setCell ⟨g, i * 10 + 1, none⟩ (.int .i64 (t.row % 64))).alloc (tobj t) from rfl]
        generalize (wr.setCell ⟨g, i * 10 + 1, none⟩ (.int .i64 (t.row % 64))).alloc (tobj t) = W5 at *
        clear g1 b1 e1' v1 k5 hb hgz fz e0 e1 e2 e3 e4 e5 e6 e7 e8 e9 MT MV MB
        obtain ⟨⟨k0, k1, k2, k3⟩, k4, k5, k6, k7, k8, k9⟩ := Q5.out.at_
        have z5 := Q5.out.lt
        have HT := Lib.hid ht
        clear ht
        have hcs : (∃ q, q = (t.kind : Int) % 7 ∧ (q == 6) = true ∧ (decide (t.n < 0) = true ∨ (decide (t.n < 0) = false ∧ decide (1000 < t.n) = true))) ∨ ((t.kind % 7 = 6 → 0 ≤ t.n ∧ t.n ≤ 1000) ∧ (((t.kind : Int) % 7 == 6) = false ∨ (((t.kind : Int) % 7 == 6) = true ∧ decide (t.n < 0) = false ∧ decide (1000 < t.n) = false))) := by
          by_cases h6 : t.kind % 7 = 6
          · have h6' : ((t.kind : Int) % 7 == 6) = true := by rw [beq_iff_eq]; omega
            by_cases h1 : t.n < 0
            · exact .inl ⟨_, rfl, h6', .inl (decide_eq_true h1)⟩
            · by_cases h2 : 1000 < t.n
              · exact .inl ⟨_, rfl, h6', .inr ⟨decide_eq_false h1, decide_eq_true h2⟩⟩
              · exact .inr ⟨fun _ => ⟨by omega, by omega⟩, .inr ⟨h6', decide_eq_false h1, decide_eq_false h2⟩⟩
          · exact .inr ⟨fun h => absurd h h6, .inl (by rw [beq_eq_false_iff_ne]; omega)⟩
        rcases hcs with ⟨q, rfl, h6, hn⟩ | ⟨good6, hn⟩
        · have KF := Lib.hid (K2.out.trans (B5.out.mono K2.out.size))
          rcases hn with h1 | ⟨h1, h2⟩
          all_goals
            go_wp2_with fail
            go_ret
            exact ⟨rfl, KF.out⟩
        · have G6 := Lib.hid good6
          clear good6
          have HW := Lib.hid (wants_any t W5)
          unfold tv tcells at HW
          rcases hn with h6 | ⟨h6, h1, h2⟩
          all_goals
            go_upto_region 13 with fail
            go_wp2_with fail
            refine HW.out.mono ?_
            rintro e w6 ⟨u, rfl, hru, hb6⟩
            obtain ⟨B, d, rfl, hvals, hjunk⟩ := hru.reads
            clear hjunk
            have WV := Lib.hid hvals
            have T6 := Lib.hid (T5.out.grow hb6)
            have V6 := Lib.hid (V5.out.grow hb6)
            have B6 := Lib.hid (B5.out.trans (hb6.mono B5.out.size))
            have hwl := wants_le t
            clear hru hvals hb6 HW Q5 k0 k1 k2 k3 k4 k5 k6 k7 k8 k9 z5 T5 V5 B5
            obtain ⟨wq, rfl⟩ : ∃ wq, wq = wr := ⟨_, rfl⟩
            go_wp2_with fail
            go_loopw [3, 60] (fun vs t0 wr => ∃ k : Nat, k ≤ t.wants.length ∧ t0 = .int .i64 k ∧ TB wr (some ⟨g, 0, none⟩) w2.heap.size (mixT l (i + 1)) ∧ VRow wr w2.heap.size vs ((l.take i).flatMap Th.wants ++ t.wants.take k) ∧ (∀ v ∈ t.wants.take k, v.chk 0 9 5 = 0) ∧ (k = 0 → Vals wr B d t.wants) ∧ Below w2.heap.size w2 wr) (fun _ t0 _ => t.wants.length - (intOf t0).toNat)
            case atStart => exact ⟨0, Nat.zero_le _, rfl, T6.out, by rw [List.take_zero, List.append_nil]; exact V6.out, (fun v h => by cases h), fun _ => WV.out, B6.out⟩
            case round =>
              obtain ⟨k, hkl, rfl, hTB, hVR, hgd, hrd, hB⟩ := hrel
              have NT := Lib.hid hTB
              have NV := Lib.hid hVR
              have ND := Lib.hid hgd
              have NB := Lib.hid hB
              clear hTB hVR hgd hB T6 V6 B6 WV
              by_cases hk : k < t.wants.length
              · obtain rfl : k = 0 := by omega
                obtain ⟨g2, o2, v, rfl, hg2, hv, c0, c1, c2, c3, c4, c5⟩ := (hrd rfl).at_ hk
                rw [Nat.zero_mul, Nat.add_zero] at c0 c1 c2 c3 c4 c5
                have p3 : decide (((0 : Nat) : Int) < (t.wants.length : Int)) = true := decide_eq_true (by omega)
                have p4 : decide (0 < t.wants.length) = true := decide_eq_true hk
                have HV := Lib.hid hv
                have k7 := Lib.hid ((Below.refl wr.heap.size wr).alloc (Nat.le_refl _) (vcells v))
                have q7 := Lib.hid (show VBox (wr.alloc (vcells v)) wr.heap.size v from heap_alloc_new _ _)
                have HCK := Lib.hid (rcheck_any v (wr.alloc (vcells v)))
                unfold vv at HCK
                clear hrd hv
                go_upto_region 16 with fail
                rw [show wr.alloc (.cells #[.int .i64 v.tag, .string (bs v.text), .int .u64 v.bits, .string (bs v.cls), .string (bs v.name), .string (bs v.desc)] 28) = wr.alloc (vcells v) from rfl]
                have T7 := Lib.hid (NT.out.grow k7.out)
                have V7 := Lib.hid (VRow.grow (show VRow wr w2.heap.size _ _ from NV.out) k7.out)
                have B7 := Lib.hid (NB.out.trans (k7.out.mono NB.out.size))
                clear c0 c1 c2 c3 c4 c5 hg2 k7 NT NV NB
                generalize wr.alloc (vcells v) = W7 at *
                obtain ⟨d0, d1, d2, d3, d4, d5⟩ := q7.out.at_
                have z7 := q7.out.lt
                go_wp2_with fail
                refine HCK.out.mono ?_
                rintro e w8 ⟨rfl, hb8⟩
                have T8 := Lib.hid (T7.out.grow hb8)
                have V8 := Lib.hid (V7.out.grow hb8)
                have B8 := Lib.hid (B7.out.trans (hb8.mono B7.out.size))
                have q8 := Lib.hid (q7.out.keep hb8 q7.out.lt)
                clear hb8 d0 d1 d2 d3 d4 d5 z7 T7 V7 B7 q7 HCK
                by_cases hck : v.chk 0 9 5 = 0
                · have hckb : (v.chk 0 9 5 != 0) = false := by simp [hck]
                  have HCZ := Lib.hid hck
                  have HCK := Lib.hid hck
                  clear hck
                  obtain ⟨d0, d1, d2, d3, d4, d5⟩ := q8.out.at_
                  have z8 := q8.out.lt
                  have kx := Lib.hid ((Below.refl w8.heap.size w8).alloc (Nat.le_refl _) (vcells v))
                  unfold vcells at kx
                  have hVs := wants_sum (l.take i)
                  rw [List.length_take] at hVs
                  generalize v.chk 0 9 5 = ck at hckb HCK
                  have V8' := Lib.hid (show VRow w8 w2.heap.size _ ((l.take i).flatMap Th.wants) from by
                    have h1 := V8.out
                    rw [List.take_zero, List.append_nil] at h1
                    exact h1)
                  clear V8
                  go_upto_region 19 with (at_builtin; refine wpList_appV rfl _ _ rfl w2.heap.size _ ((l.take i).flatMap Th.wants) rfl (V8'.out.grow kx.out) _ [v] rfl (src_val (heap_alloc_new _ _) 1) (by simp only [List.length_singleton]; omega) (Nat.le_trans B8.out.size kx.out.size) ?_; intro v5 x5 hr5 hp5)
                  have V9 := Lib.hid (show VRow x5 w2.heap.size v5 ((l.take i).flatMap Th.wants ++ t.wants.take (0 + 1)) from by
                    obtain ⟨h2, h3⟩ := List.getElem?_eq_some_iff.1 HV.out
                    rw [List.take_succ_eq_append_getElem h2, h3]
                    exact hr5)
                  have T9 := Lib.hid ((T8.out.grow kx.out).hop (V8'.out.grow kx.out) hp5)
                  have B9 := Lib.hid ((B8.out.trans (kx.out.mono B8.out.size)).trans (hp5.below (Nat.le_trans B8.out.size kx.out.size) (fun k hk => V8'.out.base_le hk)))
                  have D9 := Lib.hid (show ∀ u ∈ t.wants.take (0 + 1), u.chk 0 9 5 = 0 from fun u hu => by
                    obtain ⟨h2, h3⟩ := List.getElem?_eq_some_iff.1 HV.out
                    rw [List.take_succ_eq_append_getElem h2, h3] at hu
                    simp at hu
                    rw [hu]
                    exact HCZ.out)
                  clear hr5 hp5 d0 d1 d2 d3 d4 d5 z8 kx V8' T8 B8 q8
                  go_wp2_with fail
                  go_roundw
                  case rel => exact ⟨0 + 1, by omega, by go_num, T9.out, V9.out, D9.out, (fun h => by omega), B9.out⟩
                  case measure => simp [intOf]; omega
                · have hckb : (v.chk 0 9 5 != 0) = true := by simpa using hck
                  have KF := Lib.hid (K2.out.trans (B8.out.mono K2.out.size))
                  clear hck
                  go_wp2_with fail
                  go_ret
                  exact ⟨rfl, KF.out⟩
              · obtain rfl : k = t.wants.length := by omega
                have p3 : decide ((t.wants.length : Int) < (t.wants.length : Int)) = false := decide_eq_false (by omega)
                have p4 : decide (t.wants.length < t.wants.length) = false := decide_eq_false (by omega)
                have V9 := Lib.hid (show VRow wr w2.heap.size _ ((l.take (i + 1)).flatMap Th.wants) from by
                  have h1 := NV.out
                  rw [List.take_length] at h1
                  obtain ⟨h2, h3⟩ := List.getElem?_eq_some_iff.1 HT.out
                  rw [List.take_succ_eq_append_getElem h2, List.flatMap_append, h3]
                  simpa using h1)
                have G9 := Lib.hid (show ∀ t ∈ l.take (i + 1), GoodT t from fun s hs => by
                  obtain ⟨h2, h3⟩ := List.getElem?_eq_some_iff.1 HT.out
                  rw [List.take_succ_eq_append_getElem h2, List.mem_append, List.mem_singleton, h3] at hs
                  rcases hs with hs | rfl
                  · exact MG.out s hs
                  · exact ⟨fun v hv => ND.out v (by rw [List.take_length]; exact hv), G6.out⟩)
                clear NV ND hrd
                go_wp2_with fail
                go_roundw
                case rel => exact ⟨i + 1, by omega, by go_num, NT.out, V9.out, G9.out, NB.out⟩
                case measure => simp [intOf]; omega
      · obtain rfl : i = l.length := by omega
        have p1 : decide ((l.length : Int) < (l.length : Int)) = false := decide_eq_false (by omega)
        have p2 : decide (l.length < l.length) = false := decide_eq_false (by omega)
        obtain ⟨V, hV⟩ : ∃ V, V = l.flatMap Th.wants := ⟨_, rfl⟩
        obtain ⟨L, hL⟩ : ∃ L, L = l.map Th.norm := ⟨_, rfl⟩
        have hLl : L.length = l.length := by rw [hL, List.length_map]
        have hVl : V.length ≤ 60 := Nat.le_trans (by rw [hV]; exact wants_sum l) L1
        have HLT := Lib.hid (show TB wr A3 w2.heap.size L from by rw [hL, ← mixT_all]; exact MT.out)
        have HLG := Lib.hid (show ∀ t ∈ L, t.fits ∧ (0 ≤ t.row ∧ t.row < 64) ∧ (∀ v ∈ t.wants, v ∈ V) ∧ (t.kind % 7 = 6 → 0 ≤ t.n ∧ t.n ≤ 1000) from fun s hs => by
          rw [hL] at hs
          obtain ⟨t, ht, rfl⟩ := List.mem_map.1 hs
          have hg := MG.out t (by rw [List.take_length]; exact ht)
          have hft := HFT.out t ht
          refine ⟨⟨hft.1, ⟨by have := (norm_row t).1; show -9223372036854775808 ≤ t.norm.row; omega, by have := (norm_row t).2; show t.norm.row ≤ _; omega⟩, hft.2.2⟩, norm_row t, fun v hv => ?_, hg.2⟩
          rw [hV]
          exact List.mem_flatMap.2 ⟨t, ht, hv⟩)
        have HVF := Lib.hid (show ∀ v ∈ V, v.fits from fun v hv => by
          rw [hV] at hv
          obtain ⟨t, ht, h⟩ := List.mem_flatMap.1 hv
          exact wants_fits (HFT.out t ht) v h)
        have HVC := Lib.hid (show ∀ v ∈ V, v.chk 0 9 5 = 0 from fun v hv => by
          rw [hV] at hv
          obtain ⟨t, ht, h⟩ := List.mem_flatMap.1 hv
          exact (MG.out t (by rw [List.take_length]; exact ht)).1 v h)
        have hvr := MV.out
        rw [List.take_length, ← hV] at hvr
        obtain ⟨B, d, rfl, hvals, hBd⟩ := hvr.nil0
        have HOF := Lib.hid (of_any B d V wr hvals (by omega) hBd HVF.out)
        rw [← hLl]
        clear hV hL hvr hvals hBd MV MG MT
        go_wp2_with fail
        refine HOF.out.mono ?_
        rintro e x1 ⟨hof, hb1⟩
        rcases hof with ⟨herr, _⟩ | ⟨_, tb, m, n, utab, rfl, hT⟩
        · exact absurd (errOf_none HVC.out) herr
        have X1 := Lib.hid (MB.out.trans (hb1.mono MB.out.size))
        have TT := Lib.hid hT
        have LT := Lib.hid (HLT.out.grow hb1)
        have hO : (Pv.ord [] V).length ≤ 1000000 := by
          have := ord_len [] V
          rw [List.length_nil] at this
          omega
        have HOK := Lib.hid (show ∀ v ∈ Pv.ord [] V, v.chk 0 9 5 = 0 from fun v hv => Pv.chk_cl HVC.out ((Pv.ord_mem [] V v).1 hv))
        have HWO := Lib.hid (show ∀ v ∈ V, v ∈ Pv.ord [] V from fun v hv => (Pv.ord_mem [] V v).2 (clAll_has hv))
        clear hb1 hT HLT MB HOF
        generalize Pv.ord [] V = O at *
        go_wp2_with fail
        refine (writer_any (some ⟨tb, 0, none⟩) x1).mono ?_
        rintro e x2 ⟨rfl, h2, hb2⟩
        have P2 := Lib.hid h2
        have B2 := Lib.hid hb2
        clear h2 hb2
        go_wp2_with fail
        go_loopw [82] (fun t wr => ∃ (i : Nat) (us : Nat → Value), i ≤ L.length ∧ t = .int .i64 i ∧ PortS wr x1.heap.size x1.heap.size (.pointer (some ⟨tb, 0, none⟩)) us (rowsT O (L.take i)) false 0 ∧ Below x1.heap.size x1 wr) (fun t _ => L.length - (intOf t).toNat)
        case atStart => exact ⟨0, _, Nat.zero_le _, rfl, P2.out, B2.out⟩
        case round =>
          obtain ⟨i, us, hil, rfl, hP, hB⟩ := hrel
          have MP := Lib.hid hP
          have MB := Lib.hid hB
          clear hP hB P2 B2
          by_cases hi : i < L.length
          · obtain ⟨g, t, rfl, hgz, ht, ⟨c0, c1, c2, c3'⟩, c4, c5, c6, c7, c8, c9⟩ := (LT.out.grow MB.out).at_ hi
            have p1 : decide ((i : Int) < (L.length : Int)) = true := decide_eq_true (by omega)
            have p2 : decide (i < L.length) = true := decide_eq_true hi
            obtain ⟨hft, hrow, hwv, h6⟩ := HLG.out t (List.mem_of_getElem? ht)
            have hst := write_step (R := rowsT O (L.take i)) hrow.1 hrow.2 (fun v hv => HWO.out v (hwv v hv)) hO
            rw [rowsT_snoc ht] at hst
            have k3 := Lib.hid ((Below.refl wr.heap.size wr).alloc (Nat.le_refl _) (tobj t))
            have q3 := Lib.hid (th_new wr t)
            have O3 := Lib.hid (MP.out.off (Nat.le_refl wr.heap.size))
            have hlt := lthr_any t (MP.out.grow k3.out) (fun y hy => TT.out.grow ((MB.out.trans (k3.out.mono MB.out.size)).trans hy)) (fun k => Nat.le_trans (rowsT_len O _ k) (by rw [List.length_take]; omega)) HOK.out hft
            rw [hst] at hlt
            have HLT := Lib.hid hlt
            have HEQ := Lib.hid (fun z => (eq_thing t t z).trans (by rw [decide_eq_true rfl]))
            unfold tv tcells at HLT HEQ
            clear hlt hst hft hrow hwv h6 ht
            go_upto_region 26 with fail
            rw [show wr.alloc (.cells #[.int .u8 t.kind, .int .i64 t.row, .int .i64 t.n, .string (bs t.s), .int .i64 t.v.tag, .string (bs t.v.text), .int .u64 t.v.bits, .string (bs t.v.cls), .string (bs t.v.name), .string (bs t.v.desc)] 30) = wr.alloc (tobj t) from rfl]
            have hw3 := k3.out.size
            clear c0 c1 c2 c3' c4 c5 c6 c7 c8 c9
            generalize wr.alloc (tobj t) = W3 at *
            obtain ⟨⟨c0, c1, c2, c3'⟩, c4, c5, c6, c7, c8, c9⟩ := q3.out.at_
            have z3 := q3.out.lt
            go_wp2_with fail
            refine HLT.out.mono ?_
            rintro e y ⟨rfl, us', h4, us0, rfl, f4⟩
            have Q4 := Lib.hid (show ThBox y wr.heap.size t from (f4.same _ z3 O3.out (by simp)).trans q3.out)
            have P4 := Lib.hid h4
            have B4 := Lib.hid ((MB.out.trans (k3.out.mono MB.out.size)).trans f4.below)
            have k5 := Lib.hid ((Below.refl y.heap.size y).alloc (Nat.le_refl _) (tobj t))
            have q5 := Lib.hid (th_new y t)
            have Q5 := Lib.hid (show ThBox (y.alloc (tobj t)) wr.heap.size t from (k5.out.block _ Q4.out.lt).trans Q4.out)
            have P5 := Lib.hid (P4.out.grow k5.out)
            have B5 := Lib.hid (B4.out.trans (k5.out.mono B4.out.size))
            clear h4 f4 P4 B4 Q4 HLT O3 q3 k3 MP MB c0 c1 c2 c3' c4 c5 c6 c7 c8 c9 z3 hw3
            unfold tv tcells
            go_upto_region 27 with fail
            rw [show y.alloc (.cells #[.int .u8 t.kind, .int .i64 t.row, .int .i64 t.n, .string (bs t.s), .int .i64 t.v.tag, .string (bs t.v.text), .int .u64 t.v.bits, .string (bs t.v.cls), .string (bs t.v.name), .string (bs t.v.desc)] 30) = y.alloc (tobj t) from rfl]
            clear k5
            generalize y.alloc (tobj t) = W5 at *
            obtain ⟨⟨c0, c1, c2, c3'⟩, c4, c5, c6, c7, c8, c9⟩ := q5.out.at_
            obtain ⟨⟨d0, d1, d2, d3⟩, d4, d5, d6, d7, d8, d9⟩ := Q5.out.at_
            have z5 := q5.out.lt
            have z6 := Q5.out.lt
            have heq := HEQ.out
            go_wp2_with fail
            go_roundw
            case rel => exact ⟨i + 1, us', by omega, by go_num, P5.out, B5.out⟩
            case measure => simp [intOf]; omega
          · obtain rfl : i = L.length := by omega
            have p1 : decide ((L.length : Int) < (L.length : Int)) = false := decide_eq_false (by omega)
            have p2 : decide (L.length < L.length) = false := decide_eq_false (by omega)
            rw [List.take_length] at MP
            have hrl : ∀ k, (rowsT O L k).length ≤ 1000000 := fun k => Nat.le_trans (rowsT_len O L k) (by omega)
            have HRL := Lib.hid hrl
            have HR := Lib.hid (rows_any MP.out hrl)
            clear hrl
            go_wp2_with fail
            refine HR.out.mono ?_
            rintro e x3 ⟨u, rfl, hrow, hsub, hb3⟩
            have P3 := Lib.hid (MP.out.grow hb3)
            have B3 := Lib.hid (MB.out.trans (hb3.mono MB.out.size))
            have HQ := Lib.hid (reader_any (some ⟨tb, 0, none⟩) (some ⟨wr.heap.size, 0, none⟩) 64 ((List.range 64).map (rowsT O L)) x3 (rows_nrows hrow hsub) (fun e => by cases e) (by simp) (fun l hl => by
              obtain ⟨t, _, rfl⟩ := List.mem_map.1 hl
              exact HRL.out t))
            rw [List.length_map, List.length_range] at HQ
            clear hrow hsub hb3 MP MB HR
            go_wp2_with fail
            refine HQ.out.mono ?_
            rintro e x4 ⟨rfl, ⟨us5, h5⟩, hb5⟩
            have Q5 := Lib.hid (h5.congr (R' := rowsT O L) (fun t ht => range_map_getD ht))
            have B5 := Lib.hid hb5
            clear h5 hb5 HQ
            go_wp2_with fail
            go_loopw [99] (fun t wr => ∃ (i : Nat) (us : Nat → Value), i ≤ L.length ∧ t = .int .i64 i ∧ PortS wr x3.heap.size x3.heap.size (.pointer (some ⟨tb, 0, none⟩)) us (rowsT O (L.drop i)) true 0 ∧ Below x3.heap.size x3 wr) (fun t _ => L.length - (intOf t).toNat)
            case atStart => exact ⟨0, _, Nat.zero_le _, rfl, Q5.out, B5.out⟩
            case round =>
              obtain ⟨i, us', hil, rfl, hP, hB⟩ := hrel
              have MP := Lib.hid hP
              have MB := Lib.hid hB
              clear hP hB Q5 B5
              have BX := Lib.hid (B3.out.trans (MB.out.mono B3.out.size))
              by_cases hi : i < L.length
              · obtain ⟨g, t, rfl, hgz, ht, ⟨c0, c1, c2, c3'⟩, c4, c5, c6, c7, c8, c9⟩ := (LT.out.grow BX.out).at_ hi
                have p1 : decide ((i : Int) < (L.length : Int)) = true := decide_eq_true (by omega)
                have p2 : decide (i < L.length) = true := decide_eq_true hi
                obtain ⟨hft, hrow, hwv, h6⟩ := HLG.out t (List.mem_of_getElem? ht)
                obtain ⟨hn1, hn2⟩ := rowsT_next (O := O) ht
                obtain ⟨t', hst, hA, hB, hC⟩ := read_step (R := rowsT O (L.drop i)) hrow.1 hrow.2 (fun v hv => HWO.out v (hwv v hv)) hO h6 hn1 hft
                rw [hn2] at hst
                have k2 := Lib.hid ((Below.refl wr.heap.size wr).alloc (Nat.le_refl _) (tobj t))
                have q2 := Lib.hid (th_new wr t)
                have k3 := Lib.hid (k2.out.trans (((Below.refl (wr.alloc (tobj t)).heap.size (wr.alloc (tobj t))).alloc (Nat.le_refl _) (tobj t.blank)).mono k2.out.size))
                have q3 := Lib.hid (show ThBox ((wr.alloc (tobj t)).alloc (tobj t.blank)) (wr.heap.size + 1) t.blank from by
                  have := th_new (wr.alloc (tobj t)) t.blank
                  rw [World.size_alloc] at this
                  exact this)
                have q3t := Lib.hid (show ThBox ((wr.alloc (tobj t)).alloc (tobj t.blank)) wr.heap.size t from (((Below.refl (wr.alloc (tobj t)).heap.size (wr.alloc (tobj t))).alloc (Nat.le_refl _) (tobj t.blank)).block _ q2.out.lt).trans q2.out)
                have O3 := Lib.hid (MP.out.off (Nat.le_refl wr.heap.size))
                have hlt := lthr_any t.blank (MP.out.grow k3.out) (fun y hy => TT.out.grow ((BX.out.trans (k3.out.mono BX.out.size)).trans (hy.mono B3.out.size))) (fun k => Nat.le_trans (rowsT_len O _ k) (by rw [List.length_drop]; omega)) HOK.out ⟨hft.1, hft.2.1, (by show I64 0; unfold I64; decide), (by simp [Th.blank]), fits_text hft.2.2.2.2.1 (by simp)⟩
                rw [hst] at hlt
                have hw3 := k3.out.size
                obtain ⟨W3, hW3⟩ : ∃ W3, W3 = (wr.alloc (tobj t)).alloc (tobj t.blank) := ⟨_, rfl⟩
                rw [← hW3] at hlt k3 q3 q3t hw3
                have HW3 := Lib.hid hW3
                clear hW3
                have HLT := Lib.hid hlt
                have HEQ := Lib.hid (fun z => (eq_val t.v t.v z).trans (by rw [decide_eq_true rfl]))
                unfold tv tcells Th.blank at HLT
                unfold vv at HEQ
                dsimp only at HLT
                have HA := Lib.hid hA
                have HB := Lib.hid hB
                have HC := Lib.hid hC
                clear hlt hst hft hrow hwv h6 ht hn1 hn2 hA hB hC
                go_upto_region 35 with fail
                rw [show (wr.alloc (.cells #[.int .u8 t.kind, .int .i64 t.row, .int .i64 t.n, .string (bs t.s), .int .i64 t.v.tag, .string (bs t.v.text), .int .u64 t.v.bits, .string (bs t.v.cls), .string (bs t.v.name), .string (bs t.v.desc)] 30)).alloc (.cells #[.int .u8 t.kind, .int .i64 t.row, .int .i64 0, .string ⟨#[]⟩, .int .i64 t.v.tag, .string ⟨#[]⟩, .int .u64 0, .string ⟨#[]⟩, .string ⟨#[]⟩, .string ⟨#[]⟩] 30) = W3 from HW3.out.symm]
                clear c0 c1 c2 c3' c4 c5 c6 c7 c8 c9 q2 k2 HW3
                obtain ⟨⟨c0, c1, c2, c3'⟩, c4, c5, c6, c7, c8, c9⟩ := q3.out.at_
                have z3 := q3.out.lt
                unfold Th.blank at c0 c1 c2 c3' c4 c5 c6 c7 c8 c9
                dsimp only at c0 c1 c2 c3' c4 c5 c6 c7 c8 c9
                go_wp2_with fail
                refine HLT.out.mono ?_
                rintro e y ⟨rfl, us'', h4, us0, rfl, f4⟩
                have Q4 := Lib.hid (show ThBox y wr.heap.size t from (f4.same _ (by omega) O3.out (by simp)).trans q3t.out)
                have k5 := Lib.hid ((Below.refl y.heap.size y).alloc (Nat.le_refl _) (tobj t'))
                have q5 := Lib.hid (th_new y t')
                have Q5 := Lib.hid (show ThBox (y.alloc (tobj t')) wr.heap.size t from (k5.out.block _ Q4.out.lt).trans Q4.out)
                have P5 := Lib.hid (h4.grow k5.out)
                have B6 := Lib.hid (((MB.out.trans (k3.out.mono MB.out.size)).trans f4.below).trans (k5.out.mono (Nat.le_trans (Nat.le_trans MB.out.size k3.out.size) f4.below.size)))
                clear h4 f4 Q4 HLT O3 q3 q3t k3 MP MB BX c0 c1 c2 c3' c4 c5 c6 c7 c8 c9 z3 hw3
                unfold tv tcells
                go_upto_region 36 with fail
                rw [show y.alloc (.cells #[.int .u8 t'.kind, .int .i64 t'.row, .int .i64 t'.n, .string (bs t'.s), .int .i64 t'.v.tag, .string (bs t'.v.text), .int .u64 t'.v.bits, .string (bs t'.v.cls), .string (bs t'.v.name), .string (bs t'.v.desc)] 30) = y.alloc (tobj t') from rfl]
                clear k5
                generalize y.alloc (tobj t') = W5 at *
                obtain ⟨⟨c0, c1, c2, c3'⟩, c4, c5, c6, c7, c8, c9⟩ := q5.out.at_
                obtain ⟨⟨d0, d1, d2, d3⟩, d4, d5, d6, d7, d8, d9⟩ := Q5.out.at_
                have z5 := q5.out.lt
                have z6 := Q5.out.lt
                have heq := HEQ.out
                by_cases h0 : t.kind % 7 = 0 ∨ t.kind % 7 = 6
                · have hn := HA.out h0
                  have HN := Lib.hid (show (t'.n != t.n) = false from by rw [hn]; simp)
                  have hnn := HN.out
                  have hq : ((t.kind : Int) % 7 == 0) = true ∨ (((t.kind : Int) % 7 == 0) = false ∧ ((t.kind : Int) % 7 == 6) = true) := by
                    rcases h0 with h0 | h0
                    · exact .inl (by rw [beq_iff_eq]; omega)
                    · exact .inr ⟨by rw [beq_eq_false_iff_ne]; omega, by rw [beq_iff_eq]; omega⟩
                  clear h0 hn
                  rcases hq with hq | ⟨hq, hq2⟩
                  all_goals
                    go_wp2_with fail
                    go_roundw
                    case rel => exact ⟨i + 1, us'', by omega, by go_num, P5.out, B6.out⟩
                    case measure => simp [intOf]; omega
                · have hq0 : ((t.kind : Int) % 7 == 0) = false := by rw [beq_eq_false_iff_ne]; omega
                  have hq6 : ((t.kind : Int) % 7 == 6) = false := by rw [beq_eq_false_iff_ne]; omega
                  by_cases h5 : t.kind % 7 = 5
                  · have hv := HB.out h5
                    have hq5 : ((t.kind : Int) % 7 == 5) = true := by rw [beq_iff_eq]; omega
                    rw [hv] at c4 c5 c6 c7 c8 c9
                    clear h0 h5 hv
                    go_wp2_with fail
                    go_roundw
                    case rel => exact ⟨i + 1, us'', by omega, by go_num, P5.out, B6.out⟩
                    case measure => simp [intOf]; omega
                  · have hs := HC.out h0 h5
                    have hq5 : ((t.kind : Int) % 7 == 5) = false := by rw [beq_eq_false_iff_ne]; omega
                    rw [hs] at c3'
                    clear h0 h5 hs
                    go_wp2_with fail
                    go_roundw
                    case rel => exact ⟨i + 1, us'', by omega, by go_num, P5.out, B6.out⟩
                    case measure => simp [intOf]; omega
              · obtain rfl : i = L.length := by omega
                have p1 : decide ((L.length : Int) < (L.length : Int)) = false := decide_eq_false (by omega)
                have p2 : decide (L.length < L.length) = false := decide_eq_false (by omega)
                rw [List.drop_length] at MP
                have HPE := Lib.hid (err_any (P3.out.grow MB.out))
                have HEN := Lib.hid (end_any MP.out)
                rw [if_neg (by rw [leftB_false (R := rowsT O []) (fun ⟨t, _, h⟩ => h rfl)]; simp)] at HEN
                have KE := Lib.hid (K2.out.trans ((X1.out.trans (BX.out.mono X1.out.size)).mono K2.out.size))
                have hx3 := P3.out.ble
                clear MP BX
                go_wp2_with fail
                refine HPE.out.mono ?_
                rintro e z ⟨rfl, rfl⟩
                go_wp2_with fail
                refine HEN.out.mono ?_
                rintro e z2 ⟨rfl, us9, _, us0, _, f9⟩
                have KF := Lib.hid (KE.out.trans (f9.below.mono (Nat.le_trans K2.out.size (Nat.le_trans X1.out.size B3.out.size))))
                clear f9
                go_wp2_with fail
                go_ret
                exact ⟨rfl, KF.out⟩
end Go.Proofs.Ytdmiljaiglaacaa
