/- The walk of layer 28's first law: all that values need, each once, by the document's order. -/
import Derived.Test.YtekcfjfkbiciaaaTab
import Derived.Test.YtekcfjfkbiciaaaROrder
import Derived.Test.YtekcfjfkbiciaaaNew
namespace Go.Proofs.Ytekcfjfkbiciaaa
open Go.RowKit

/-- What the document's closure comes to. -/
def ClosedOk (l : List Pv) (w : World) (e : Ending) (w' : World) : Prop :=
  (Pv.errOf l ≠ 0 ∧ e = .returned (.tuple #[.slice none 0 0, .int .i64 (Pv.errOf l)]) ∨
   Pv.errOf l = 0 ∧ ∃ u, e = .returned (.tuple #[u, .int .i64 0]) ∧ VRow w' w.heap.size u (Pv.ord [] l)) ∧ Below w.heap.size w w'
theorem slots_len2 (O : List Pv) : (Pv.slots O).length ≤ 2 * O.length + 1 := by
  unfold Pv.slots
  rw [List.length_cons]
  have : (O.flatMap Pv.slot).length ≤ 2 * O.length := by
    induction O with
    | nil => simp
    | cons x O ih =>
      have : x.slot.length ≤ 2 := by unfold Pv.slot; split <;> simp
      simp only [List.flatMap_cons, List.length_append, List.length_cons]; omega
  omega
/-- One value of the order more. -/
theorem dd_step {S : List Pv} {i : Nat} {v p : Pv} {acc X : List Pv} {first : Bool} (hv : S[i]? = some v) (h : acc ++ Pv.dd p first (S.drop i) = X) :
    (acc ++ (if first = true ∨ v ≠ p then [v] else [])) ++ Pv.dd v false (S.drop (i + 1)) = X := by
  obtain ⟨h1, rfl⟩ := List.getElem?_eq_some_iff.1 hv
  rw [List.drop_eq_getElem_cons h1] at h
  rw [← h, List.append_assoc]
  rfl
set_option maxRecDepth 100000 in
set_option maxHeartbeats 4000000 in
theorem closed_any (B : Option Addr) (d : Nat) (l : List Pv) (w : World) (hy : Vals w B d l) (hm : l.length ≤ 1000) (hf : ∀ v ∈ l, v.fits) :
    Calls Try.prog 7 #[.slice B l.length d] w (ClosedOk l w) := by
  have HO := Lib.hid (order_any none B 0 d [] l w (Vals.nil _ _ _) hy (by simp) (by omega))
  have hol := ord_len [] l
  have hnd := Pv.ord_nodup [] l
  rw [List.length_nil] at hol
  clear hy hf
  unfold ClosedOk
  go_enter Try.func7, Try.ntmps7
  go_wp2_with fail
  refine HO.out.mono ?_
  rintro e w1 ⟨u, S, rfl, hr, hS, hb⟩
  rw [List.nil_append] at hS ⊢
  have HR := Lib.hid hr
  have HB := Lib.hid hb
  clear hr hb HO
  rcases hS with ⟨herr, rfl⟩ | ⟨herr, rfl⟩
  · rw [herr]
    have hsl := slots_len2 (Pv.ord [] l)
    have HDD := Lib.hid (dd_slots (Pv.ord [] l) hnd Pv.zero true (.inl rfl))
    have HE0 := Lib.hid herr
    clear herr hnd
    obtain ⟨O, eO⟩ : ∃ O, O = Pv.ord [] l := ⟨_, rfl⟩
    rw [← eO] at hol hsl HDD HR
    try rw [← eO]
    have HOE := Lib.hid eO
    clear eO
    have HS0 := Lib.hid (show Pv.slots O = Pv.zero :: O.flatMap Pv.slot from rfl)
    generalize O.flatMap Pv.slot = T at *
    generalize Pv.slots O = S at *
    obtain ⟨A, c, rfl, hV, hA⟩ := HR.out.reads
    have HV := Lib.hid hV
    clear hV hA HR
    go_wp2_with fail
    go_loopw [6, 19] (fun u t wr => ∃ (i : Nat) (acc : List Pv), i ≤ S.length ∧ t = .int .i64 i ∧ VRow wr w1.heap.size u acc ∧ (i = 0 ∧ acc = [] ∨ ∃ p, 1 ≤ i ∧ S[i - 1]? = some p ∧ acc ++ Pv.dd p (decide (i = 1)) (S.drop i) = O) ∧ acc.length ≤ i ∧ Below w1.heap.size w1 wr) (fun _ t _ => S.length - (intOf t).toNat)
    case atStart => exact ⟨0, [], Nat.zero_le _, rfl, VRow.nil _ _, .inl ⟨rfl, rfl⟩, Nat.zero_le _, Below.refl _ _⟩
    case round =>
      obtain ⟨i, acc, hil, rfl, hr, hst, hal, hB⟩ := hrel
      have MR := Lib.hid hr
      have MB := Lib.hid hB
      have MS := Lib.hid hst
      clear hr hB hst
      by_cases hi : i < S.length
      · obtain ⟨g, o, v, eA, hg, hv, c0, c1, c2, c3, c4, c5⟩ := (HV.out.grow MB.out).at_ hi
        have p1 : decide ((i : Int) < (S.length : Int)) = true := decide_eq_true (by omega)
        have p2 : decide (i < S.length) = true := decide_eq_true hi
        have k1 := Lib.hid ((Below.refl wr.heap.size wr).alloc (Nat.le_refl _) (.cells #[.int .i64 v.tag, .string (bs v.text), .int .u64 v.bits, .string (bs v.cls), .string (bs v.name), .string (bs v.desc)] 25))
        have q1 := Lib.hid (vbox_new wr v)
        have NB := Lib.hid (MB.out.trans (k1.out.mono MB.out.size))
        have NR := Lib.hid (MR.out.grow k1.out)
        by_cases h0 : i = 0
        · subst h0
          subst eA
          simp only [Nat.zero_mul, Nat.add_zero] at c0 c1 c2 c3 c4 c5
          have hacc : acc = [] := by
            rcases MS.out with ⟨_, h⟩ | ⟨_, h, _⟩
            · exact h
            · exact absurd h (by omega)
          subst hacc
          have HN := Lib.hid (show ∃ p, 1 ≤ 0 + 1 ∧ S[0 + 1 - 1]? = some p ∧ [] ++ Pv.dd p (decide (0 + 1 = 1)) (S.drop (0 + 1)) = O from ⟨Pv.zero, by omega, by rw [HS0.out]; rfl, by rw [HS0.out]; exact HDD.out⟩)
          clear hv MS MR
          go_wp2_with fail
          go_quiet (fail)
          go_wp2_with fail
          go_roundw
          case rel => exact ⟨0 + 1, [], by omega, by go_num, NR.out, .inr HN.out, by simp, below_drewN NB.out _⟩
          case measure => simp [intOf]; omega
        · obtain ⟨p, _, hp, hst⟩ : ∃ p, 1 ≤ i ∧ S[i - 1]? = some p ∧ acc ++ Pv.dd p (decide (i = 1)) (S.drop i) = O := by
            rcases MS.out with ⟨h, _⟩ | h
            · exact absurd h h0
            · exact h
          have hnx := dd_step hv hst
          have p3 : decide ((0 : Int) < (i : Int)) = true := decide_eq_true (by omega)
          have HNX := Lib.hid hnx
          clear hst hnx MS
          have HV1 := Lib.hid hv
          clear hv
          by_cases h1 : i = 1
          · subst h1
            subst eA
            clear hp
            simp only [Nat.one_mul] at c0 c1 c2 c3 c4 c5
            have HN := Lib.hid (show (acc ++ [v]) ++ Pv.dd v (decide (1 + 1 = 1)) (S.drop (1 + 1)) = O from by
              have h := HNX.out
              rw [if_pos (.inl rfl)] at h
              exact h)
            go_wp2_with fail
            refine wp_region_grow (by kernel_rfl) (by kernel_rfl) ?_
            repeat (go_big_quiet_step (fail))
            refine wpQuiet_nil ?_
            intro g2
            obtain ⟨x2, hb2⟩ := g2
            have NB2 := Lib.hid (NB.out.trans (hb2.mono NB.out.size))
            have NR2 := Lib.hid (NR.out.grow hb2)
            have Q2 := Lib.hid (q1.out.keep hb2 q1.out.lt)
            dsimp only
            clear hb2 NB NR k1 q1 c0 c1 c2 c3 c4 c5
            obtain ⟨d0, d1, d2, d3, d4, d5⟩ := Q2.out.at_
            have hz := Q2.out.lt
            have kx := Lib.hid ((Below.refl x2.heap.size x2).alloc (Nat.le_refl _) (.cells #[.int .i64 v.tag, .string (bs v.text), .int .u64 v.bits, .string (bs v.cls), .string (bs v.name), .string (bs v.desc)] 25))
            go_wp2_with (at_builtin; refine wpList_appV rfl _ _ rfl w1.heap.size _ acc rfl (NR2.out.grow kx.out) _ [v] rfl (src_val (heap_alloc_new _ _) 1) (by simp; omega) (Nat.le_trans NB2.out.size kx.out.size) ?_; intro v5 x5 hr5 hp5)
            have R5 := Lib.hid hr5
            have B5 := Lib.hid ((NB2.out.trans (kx.out.mono NB2.out.size)).trans (hp5.below (Nat.le_trans NB2.out.size kx.out.size) (fun k hk => NR2.out.base_le hk)))
            clear hr5 hp5 d0 d1 d2 d3 d4 d5 hz NB2 NR2 Q2 kx
            go_wp2_with fail
            go_roundw
            case rel => exact ⟨1 + 1, acc ++ [v], by omega, by go_num, R5.out, .inr ⟨v, by omega, HV1.out, HN.out⟩, by simp; omega, B5.out⟩
            case measure => simp [intOf]; omega
          · have p4 : ((i : Int) == 1) = false := by rw [beq_eq_false_iff_ne]; omega
            have p4' : (i == 1) = false := by rw [beq_eq_false_iff_ne]; omega
            have p3' : decide (0 < i) = true := decide_eq_true (by omega)
            obtain ⟨g', o', p', eA', _, hp', b0, b1, b2, b3, b4, b5⟩ := (HV.out.grow MB.out).at_ (i := i - 1) (by omega)
            rw [hp] at hp'
            cases hp'
            subst eA
            cases eA'
            have hsub : (i : Int) - 1 = ((i - 1 : Nat) : Int) := by omega
            have p5 : decide (i - 1 < S.length) = true := decide_eq_true (by omega)
            have p6 : ((i - 1 : Nat) : Int) < (S.length : Int) := by omega
            have p7 : i - 1 < S.length := by omega
            have p8 : (i : Int) - 1 < (S.length : Int) := by omega
            have HE := Lib.hid (fun x => eq_val v p x)
            unfold vv at HE
            have HD1 := Lib.hid (show decide (i + 1 = 1) = false from decide_eq_false (by omega))
            clear hp
            by_cases e : v = p
            · have he := fun x => (HE.out x).trans (by rw [decide_eq_true e])
              have HN := Lib.hid (show acc ++ Pv.dd v (decide (i + 1 = 1)) (S.drop (i + 1)) = O from by
                have h := HNX.out
                rw [if_neg (by simp [e, h1]), List.append_nil] at h
                rw [HD1.out]
                exact h)
              clear e
              go_wp2_with fail
              refine wp_region_grow (by kernel_rfl) (by kernel_rfl) ?_
              repeat (go_big_quiet_step (fail))
              refine wpQuiet_nil ?_
              intro g2
              obtain ⟨x2, hb2⟩ := g2
              have NB2 := Lib.hid (NB.out.trans (hb2.mono NB.out.size))
              have NR2 := Lib.hid (NR.out.grow hb2)
              have Q2 := Lib.hid (q1.out.keep hb2 q1.out.lt)
              dsimp only
              clear hb2 NB NR k1 q1 c0 c1 c2 c3 c4 c5
              clear Q2 he b0 b1 b2 b3 b4 b5
              go_wp2_with fail
              go_roundw
              case rel => exact ⟨i + 1, acc, by omega, by go_num, NR2.out, .inr ⟨v, by omega, HV1.out, HN.out⟩, by omega, NB2.out⟩
              case measure => simp [intOf]; omega
            · have he := fun x => (HE.out x).trans (by rw [decide_eq_false e])
              have HN := Lib.hid (show (acc ++ [v]) ++ Pv.dd v (decide (i + 1 = 1)) (S.drop (i + 1)) = O from by
                have h := HNX.out
                rw [if_pos (.inr e)] at h
                rw [HD1.out]
                exact h)
              clear e
              go_wp2_with fail
              refine wp_region_grow (by kernel_rfl) (by kernel_rfl) ?_
              repeat (go_big_quiet_step (fail))
              refine wpQuiet_nil ?_
              intro g2
              obtain ⟨x2, hb2⟩ := g2
              have NB2 := Lib.hid (NB.out.trans (hb2.mono NB.out.size))
              have NR2 := Lib.hid (NR.out.grow hb2)
              have Q2 := Lib.hid (q1.out.keep hb2 q1.out.lt)
              dsimp only
              clear hb2 NB NR k1 q1 c0 c1 c2 c3 c4 c5
              clear he b0 b1 b2 b3 b4 b5
              obtain ⟨d0, d1, d2, d3, d4, d5⟩ := Q2.out.at_
              have hz := Q2.out.lt
              have kx := Lib.hid ((Below.refl x2.heap.size x2).alloc (Nat.le_refl _) (.cells #[.int .i64 v.tag, .string (bs v.text), .int .u64 v.bits, .string (bs v.cls), .string (bs v.name), .string (bs v.desc)] 25))
              go_wp2_with (at_builtin; refine wpList_appV rfl _ _ rfl w1.heap.size _ acc rfl (NR2.out.grow kx.out) _ [v] rfl (src_val (heap_alloc_new _ _) 1) (by simp; omega) (Nat.le_trans NB2.out.size kx.out.size) ?_; intro v5 x5 hr5 hp5)
              have R5 := Lib.hid hr5
              have B5 := Lib.hid ((NB2.out.trans (kx.out.mono NB2.out.size)).trans (hp5.below (Nat.le_trans NB2.out.size kx.out.size) (fun k hk => NR2.out.base_le hk)))
              clear hr5 hp5 d0 d1 d2 d3 d4 d5 hz NB2 NR2 Q2 kx
              go_wp2_with fail
              go_roundw
              case rel => exact ⟨i + 1, acc ++ [v], by omega, by go_num, R5.out, .inr ⟨v, by omega, HV1.out, HN.out⟩, by simp; omega, B5.out⟩
              case measure => simp [intOf]; omega
      · obtain rfl : i = S.length := by omega
        have p1 : decide ((S.length : Int) < (S.length : Int)) = false := decide_eq_false (by omega)
        have p2 : decide (S.length < S.length) = false := decide_eq_false (by omega)
        have hfin : acc = O := by
          rcases MS.out with ⟨h, _⟩ | ⟨p, _, _, h⟩
          · rw [HS0.out] at h; simp at h
          · rw [List.drop_length] at h
            simpa [Pv.dd] using h
        subst hfin
        clear MS
        go_wp2_with fail
        go_ret2
        exact ⟨.inr ⟨HE0.out, _, rfl, by rw [← HOE.out]; exact MR.out.lower HB.out.size⟩, HB.out.trans (MB.out.mono HB.out.size)⟩
  · have he : (Pv.errOf l != 0) = true := by simpa using herr
    have HE := Lib.hid herr
    clear herr
    go_wp2_with fail
    go_ret2
    exact ⟨.inl ⟨HE.out, rfl⟩, HB.out⟩
end Go.Proofs.Ytekcfjfkbiciaaa
