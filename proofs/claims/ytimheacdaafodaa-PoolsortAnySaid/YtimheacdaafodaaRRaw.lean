/- The walk of layer 19: the constants of an order, by the document. -/
import Derived.Test.YtimheacdaafodaaRNumber
import Derived.Test.YtimheacdaafodaaROrder
import Derived.Deep.CutRange
namespace Go.Proofs.Ytimheacdaafodaa
open Go.RowKit

/-- The document's constants of an order. -/
def Pv.rawsOf (L : List Pv) : List Rw := Rw.zero :: (match L with | [] => [] | z :: t => Pv.rawGo (Pv.refNum L) z true false t)
/-- Behind i values: what is laid, and what is to come. -/
def RawSt (L : List Pv) (i : Nat) (h : Bool) (acc : List Rw) : Prop :=
  (i = 0 ∧ acc = [Rw.zero] ∧ h = false) ∨ ∃ p, 0 < i ∧ L[i - 1]? = some p ∧ acc ++ Pv.rawGo (Pv.refNum L) p (decide (i = 1)) h (L.drop i) = Pv.rawsOf L
theorem RawSt.one {L : List Pv} {x : Pv} (h : L[0]? = some x) {hf : Bool} {acc : List Rw} (hs : RawSt L 0 hf acc) : RawSt L 1 hf acc := by
  rcases hs with ⟨_, rfl, rfl⟩ | ⟨_, h0, _⟩
  · refine .inr ⟨x, by omega, h, ?_⟩
    cases L with
    | nil => simp at h
    | cons z t =>
      simp at h
      subst h
      rfl
  · omega
def halfOf (L : List Pv) (i : Nat) (p v : Pv) (h : Bool) : Bool := !decide (i = 1) && v.wide && decide (v = p) && !h
theorem RawSt.step {L : List Pv} {i : Nat} {v p : Pv} {h : Bool} {acc : List Rw} (hi : 0 < i) (hv : L[i]? = some v) (hp : L[i - 1]? = some p) (hs : RawSt L i h acc) :
    RawSt L (i + 1) (halfOf L i p v h) (acc ++ [if halfOf L i p v h = true then Rw.zero else v.rawRef (Pv.refNum L)]) := by
  rcases hs with ⟨h0, _⟩ | ⟨p', _, hp', e⟩
  · omega
  · rw [hp] at hp'
    cases hp'
    refine .inr ⟨v, by omega, by simpa using hv, ?_⟩
    rw [← e]
    obtain ⟨h3, rfl⟩ := List.getElem?_eq_some_iff.1 hv
    rw [List.drop_eq_getElem_cons h3, List.append_assoc]
    have h1 : decide (i + 1 = 1) = false := decide_eq_false (by omega)
    rw [h1]
    simp [halfOf, Pv.rawGo]
theorem RawSt.fin {L : List Pv} {h : Bool} {acc : List Rw} (hs : RawSt L L.length h acc) : acc = Pv.rawsOf L := by
  rcases hs with ⟨h0, rfl, _⟩ | ⟨p, _, _, e⟩
  · have : L = [] := List.eq_nil_of_length_eq_zero h0
    subst this
    rfl
  · rw [List.drop_length] at e
    simpa [Pv.rawGo] using e
theorem grownBy_set (w : World) (b o : Nat) {cur : Array Value} {t : TypeId} {fr : Nat × Nat} (h : w.heap[b]? = some (.cells cur t fr)) (v : Value) : w.grownBy (w.setCell ⟨b, o, none⟩ v) (some b) := by
  rw [setCell_eq_setRow w b o cur t fr v h]
  exact ⟨rfl, rfl, rfl, by simp, fun k _ hne => setRow_other w b k _ (fun hh => hne (by rw [hh]))⟩
theorem RBox.set {w : World} {b : Nat} {v : Rw} (h : RBox w b v) (o : Nat) (u : Value) (v' : Rw) (he : (#[.int .i64 v.tag, .string (bs v.text), .int .u64 v.bits, .int .i64 v.a, .int .i64 v.b] : Array Value).setIfInBounds o u = #[.int .i64 v'.tag, .string (bs v'.text), .int .u64 v'.bits, .int .i64 v'.a, .int .i64 v'.b]) :
    RBox (w.setCell ⟨b, o, none⟩ u) b v' := by
  unfold RBox
  rw [setCell_eq_setRow w b o _ _ _ u h, ← he]
  exact setRow_heap w b _ _ _ _ h
/-- With the first j numbers laid. -/
def rawJ (nm : Pv → Nat) (v : Pv) (j : Nat) : Rw := ⟨v.tag, if v.tag = 1 then v.text else [], v.bits, if 0 < j then (v.needs[0]?.map nm).getD 0 else 0, if 1 < j then (v.needs[1]?.map nm).getD 0 else 0⟩
theorem rawJ_end (nm : Pv → Nat) (v : Pv) : rawJ nm v v.needs.length = v.rawRef nm := by
  unfold rawJ Pv.rawRef
  have hl := v.needs_len
  generalize v.needs = l at *
  match l with
  | [] => rfl
  | [x] => rfl
  | [x, y] => rfl
  | x :: y :: z :: l => simp at hl
set_option maxHeartbeats 8000000 in
set_option maxRecDepth 100000 in
theorem rraw_any (A : Option Addr) (c : Nat) (L : List Pv) (w : World) (hx : Vals w A c L) (hn : L.length ≤ 1000000) :
    Calls Try.prog 14 #[.slice A L.length c] w fun e w' => ∃ u, e = .returned u ∧ RRow w' w.heap.size u (Pv.rawsOf L) ∧ Below w.heap.size w w' := by
  have HX := Lib.hid hx
  have HE := Lib.hid (fun a b x => eq_val a b x)
  clear hx
  unfold vv at HE
  go_enter Try.func14, Try.ntmps14
  go_wp2_with fail
  have HST := Lib.hid (show ∃ (i : Nat) (h : Bool) (acc : List Rw), i ≤ L.length ∧ (Value.int .i64 0) = .int .i64 i ∧ (Value.bool false) = .bool h ∧ RawSt L i h acc ∧ acc.length ≤ i + 1 ∧ RRow (w.alloc (.cells #[.int .i64 0, .string ⟨#[]⟩, .int .u64 0, .int .i64 0, .int .i64 0] 49)) w.heap.size (.slice (some ⟨w.heap.size, 0, none⟩) 1 1) acc ∧ Below w.heap.size w (w.alloc (.cells #[.int .i64 0, .string ⟨#[]⟩, .int .u64 0, .int .i64 0, .int .i64 0] 49)) from
    ⟨0, false, [Rw.zero], Nat.zero_le _, rfl, rfl, .inl ⟨rfl, rfl, rfl⟩, by simp, rrow_of_block (heap_alloc_new _ _) (Nat.le_refl _) [Rw.zero] rfl rfl (by simp), (Below.refl _ _).alloc (Nat.le_refl _) _⟩)
  go_loopw [3, 4, 14] (fun r b t wr => ∃ (i : Nat) (h : Bool) (acc : List Rw), i ≤ L.length ∧ t = .int .i64 i ∧ b = .bool h ∧ RawSt L i h acc ∧ acc.length ≤ i + 1 ∧ RRow wr w.heap.size r acc ∧ Below w.heap.size w wr) (fun _ _ t _ => L.length - (intOf t).toNat)
  case atStart => exact HST.out
  case round =>
    clear HST
    obtain ⟨i, h, acc, hil, rfl, rfl, hst, hal, hr, hB⟩ := hrel
    have HB := Lib.hid hB
    have HS := Lib.hid hst
    have HR := Lib.hid hr
    clear hB hst hr
    by_cases hi : i < L.length
    · obtain ⟨g, o, v, eA, hg, hv, c0, c1, c2, c3, c4, c5⟩ := (HX.out.grow HB.out).at_ hi
      subst eA
      have p1 : decide ((i : Int) < (L.length : Int)) = true := decide_eq_true (by omega)
      have p2 : decide (i < L.length) = true := decide_eq_true hi
      have HV := Lib.hid hv
      have k1 := Lib.hid ((Below.refl wr.heap.size wr).alloc (Nat.le_refl _) (.cells #[.int .i64 v.tag, .string (bs v.text), .int .u64 v.bits, .string (bs v.cls), .string (bs v.name), .string (bs v.desc)] 25))
      have q1 := Lib.hid (vbox_new wr v)
      clear hv
      by_cases h0 : i = 0
      · subst h0
        simp only [Nat.zero_mul, Nat.add_zero] at c0 c1 c2 c3 c4 c5
        have HS2 := Lib.hid (HS.out.one HV.out)
        go_wp2
        go_roundw
        case rel => exact ⟨1, h, acc, by omega, by go_num, rfl, HS2.out, by omega, HR.out.grow k1.out, HB.out.trans (k1.out.mono HB.out.size)⟩
        case measure => simp [intOf]; omega
      · have hi0 : 0 < i := by omega
        have p3 : ((i : Int) == 0) = false := by simp; omega
        obtain ⟨g', o', p, e', hg', hp, b0, b1, b2, b3, b4, b5⟩ := (HX.out.grow HB.out).at_ (i := i - 1) (by omega)
        cases e'
        have HP := Lib.hid hp
        have hsub : (i : Int) - 1 = ((i - 1 : Nat) : Int) := by omega
        have p4 : decide (i - 1 < L.length) = true := decide_eq_true (by omega)
        have HS2 := Lib.hid (RawSt.step hi0 HV.out HP.out HS.out)
        clear hp
        obtain ⟨hn', hh⟩ : ∃ x, x = halfOf L i p v h := ⟨_, rfl⟩
        rw [← hh] at HS2
        have HH := Lib.hid hh
        clear hh h0
        go_upto_region 7 with fail
        go_cut [4, 14] from 14 to 85 (fun s4 s14 wx => s4 = .bool hn' ∧ s14 = .int .i64 i ∧ Below (wr.alloc (.cells #[.int .i64 v.tag, .string (bs v.text), .int .u64 v.bits, .string (bs v.cls), .string (bs v.name), .string (bs v.desc)] 25)).heap.size (wr.alloc (.cells #[.int .i64 v.tag, .string (bs v.text), .int .u64 v.bits, .string (bs v.cls), .string (bs v.name), .string (bs v.desc)] 25)) wx)
        case first =>
          by_cases h1 : i = 1
          · have p5 : decide ((1 : Int) < (i : Int)) = false := decide_eq_false (by omega)
            have p5' : decide (1 < i) = false := decide_eq_false (by omega)
            have HN := Lib.hid (show hn' = false by rw [HH.out]; simp [halfOf, h1])
            clear HH h1
            refine wp_region_grow (by kernel_rfl) (by kernel_rfl) ?_
            repeat (go_big_quiet_step (fail))
            refine wpQuiet_nil ?_
            intro g1
            obtain ⟨w1, hb1⟩ := g1
            have HC := Lib.hid hb1
            dsimp only
            clear hb1
            go_wp2_with fail
            go_meet
            case rel => exact ⟨by rw [HN.out], rfl, HC.out⟩
          · have p5 : decide ((1 : Int) < (i : Int)) = true := decide_eq_true (by omega)
            have p5' : decide (1 < i) = true := decide_eq_true (by omega)
            have hwide : (v.wide = true ∧ ((v.tag == 5) = true ∨ (v.tag == 5) = false ∧ (v.tag == 6) = true)) ∨ (v.wide = false ∧ (v.tag == 5) = false ∧ (v.tag == 6) = false) := by
              unfold Pv.wide
              cases v.tag == 5 <;> cases v.tag == 6 <;> simp
            rcases hwide with ⟨hw, ht⟩ | ⟨hw, t5, t6⟩
            · by_cases e : v = p
              · have he := fun z => (HE.out v p z).trans (by rw [decide_eq_true e])
                have HN := Lib.hid (show hn' = !h by rw [HH.out]; unfold halfOf; rw [hw, decide_eq_true e, decide_eq_false h1]; cases h <;> rfl)
                clear HH h1 hw e
                rcases ht with t5 | ⟨t5, t6⟩ <;>
                · skip
                  refine wp_region_grow (by kernel_rfl) (by kernel_rfl) ?_
                  repeat (go_big_quiet_step (fail))
                  refine wpQuiet_nil ?_
                  intro g1
                  obtain ⟨w1, hb1⟩ := g1
                  have HC := Lib.hid hb1
                  dsimp only
                  clear hb1
                  go_wp2_with fail
                  go_meet
                  case rel => exact ⟨by rw [HN.out], rfl, HC.out⟩
              · have he := fun z => (HE.out v p z).trans (by rw [decide_eq_false e])
                have HN := Lib.hid (show hn' = false by rw [HH.out]; simp [halfOf, e])
                clear HH h1 hw e
                rcases ht with t5 | ⟨t5, t6⟩ <;>
                · skip
                  refine wp_region_grow (by kernel_rfl) (by kernel_rfl) ?_
                  repeat (go_big_quiet_step (fail))
                  refine wpQuiet_nil ?_
                  intro g1
                  obtain ⟨w1, hb1⟩ := g1
                  have HC := Lib.hid hb1
                  dsimp only
                  clear hb1
                  go_wp2_with fail
                  go_meet
                  case rel => exact ⟨by rw [HN.out], rfl, HC.out⟩
            · have HN := Lib.hid (show hn' = false by rw [HH.out]; simp [halfOf, hw])
              clear HH h1 hw
              refine wp_region_grow (by kernel_rfl) (by kernel_rfl) ?_
              repeat (go_big_quiet_step (fail))
              refine wpQuiet_nil ?_
              intro g1
              obtain ⟨w1, hb1⟩ := g1
              have HC := Lib.hid hb1
              dsimp only
              clear hb1
              go_wp2_with fail
              go_meet
              case rel => exact ⟨by rw [HN.out], rfl, HC.out⟩
        case rest =>
          obtain ⟨rfl, rfl, hbc⟩ := hcut
          have K1 := Lib.hid (k1.out.trans (hbc.mono k1.out.size))
          have q2 := Lib.hid (q1.out.keep hbc q1.out.lt)
          have MB := Lib.hid (HB.out.trans (K1.out.mono HB.out.size))
          have MR := Lib.hid (HR.out.grow K1.out)
          clear hbc k1 q1 c0 c1 c2 c3 c4 c5 b0 b1 b2 b3 b4 b5 HE HH HP hsub p3 p4
          cases hn' with
          | true =>
            have HS3 := Lib.hid (show RawSt L (i + 1) true (acc ++ [Rw.zero]) by simpa using HS2.out)
            clear HS2
            have kz := Lib.hid ((Below.refl wc.heap.size wc).alloc (Nat.le_refl _) (.cells #[.int .i64 0, .string ⟨#[]⟩, .int .u64 0, .int .i64 0, .int .i64 0] 49))
            go_wp2_with (at_builtin; refine wpList_appR rfl _ _ rfl w.heap.size _ acc rfl (MR.out.grow kz.out) _ [Rw.zero] rfl (src_raw (v := Rw.zero) (heap_alloc_new _ _) 1) (by simp; omega) (Nat.le_trans MB.out.size kz.out.size) ?_; intro v5 x5 hr5 hp5)
            have N := Lib.hid hr5
            have NB := Lib.hid ((MB.out.trans (kz.out.mono MB.out.size)).trans (hp5.below (Nat.le_trans MB.out.size kz.out.size) (fun k hk => MR.out.base_le hk)))
            clear hr5 hp5
            go_roundw
            case rel => exact ⟨i + 1, true, acc ++ [Rw.zero], by omega, by go_num, rfl, HS3.out, by simp; omega, N.out, NB.out⟩
            case measure => simp [intOf]; omega
          | false =>
            have HS3 := Lib.hid (show RawSt L (i + 1) false (acc ++ [v.rawRef (Pv.refNum L)]) by simpa using HS2.out)
            clear HS2
            obtain ⟨d0, d1, d2, d3, d4, d5⟩ := q2.out.at_
            have hqs := q2.out.lt
            have hnd := rneeds_any v
            unfold vv at hnd
            have HND := Lib.hid hnd
            have hnu := fun x w h => rnumber_any (some ⟨g, o, none⟩) c L x w h (by omega)
            unfold vv at hnu
            have HNU := Lib.hid hnu
            clear hnd hnu
            by_cases ht : v.tag = 1
            have t1 : (v.tag == 1) = true := by simp [ht]
            have R0 := Lib.hid (show RBox (wc.alloc (.cells #[.int .i64 v.tag, .string (bs v.text), .int .u64 v.bits, .int .i64 0, .int .i64 0] 49)) wc.heap.size (rawJ (Pv.refNum L) v 0) from by
              unfold RBox rawJ
              rw [if_pos ht]
              exact heap_alloc_new _ _)
            have kz := Lib.hid ((Below.refl wc.heap.size wc).alloc (Nat.le_refl _) (.cells #[.int .i64 v.tag, .string (bs v.text), .int .u64 v.bits, .int .i64 0, .int .i64 0] 49))
            clear ht
            go_wp2_with fail
            clear t1
            generalize wc.alloc (.cells #[.int .i64 v.tag, .string (bs v.text), .int .u64 v.bits, .int .i64 0, .int .i64 0] 49) = W at R0 kz ⊢
            rotate_left
            have t1 : (v.tag == 1) = false := by simp [ht]
            have R0 := Lib.hid (show RBox (wc.alloc (.cells #[.int .i64 v.tag, .string ⟨#[]⟩, .int .u64 v.bits, .int .i64 0, .int .i64 0] 49)) wc.heap.size (rawJ (Pv.refNum L) v 0) from by
              unfold RBox rawJ
              rw [if_neg ht]
              exact heap_alloc_new _ _)
            have kz := Lib.hid ((Below.refl wc.heap.size wc).alloc (Nat.le_refl _) (.cells #[.int .i64 v.tag, .string ⟨#[]⟩, .int .u64 v.bits, .int .i64 0, .int .i64 0] 49))
            clear ht
            go_wp2_with fail
            clear t1
            generalize wc.alloc (.cells #[.int .i64 v.tag, .string ⟨#[]⟩, .int .u64 v.bits, .int .i64 0, .int .i64 0] 49) = W at R0 kz ⊢
            all_goals
              refine (HND.out W).mono ?_
              rintro e x3 ⟨u63, rfl, hr63, hb3⟩
              obtain ⟨A63, c63, rfl, hV63, hA63⟩ := hr63.reads
              have R1 := Lib.hid (R0.out.keep hb3 R0.out.lt)
              have H63 := Lib.hid (hr63.lower (Nat.le_trans MB.out.size kz.out.size))
              have K3 := Lib.hid (kz.out.trans (hb3.mono kz.out.size))
              have HNE := Lib.hid (fun k (hk : u3.ownBlock = some k) => MR.out.lt hk)
              have hwb : w.heap.size ≤ wc.heap.size := MB.out.size
              clear hr63 hb3 hV63 hA63 d0 d1 d2 d3 d4 d5 hqs
              go_wp2_with fail
              have hnl := v.needs_len
              have HST := Lib.hid (show ∃ j : Nat, j ≤ v.needs.length ∧ (Value.int .i64 0) = .int .i64 j ∧ RBox x3 wc.heap.size (rawJ (Pv.refNum L) v j) ∧ VRow x3 w.heap.size (.slice A63 v.needs.length c63) v.needs ∧ RRow x3 w.heap.size u3 acc ∧ Below w.heap.size w x3 from
                ⟨0, Nat.zero_le _, rfl, R1.out, H63.out, MR.out.grow K3.out, MB.out.trans (K3.out.mono MB.out.size)⟩)
              obtain ⟨wq, rfl⟩ : ∃ wq, wq = wr := ⟨_, rfl⟩
              clear R0 R1 kz H63 K3 MR K1 q2 HR HB
              go_loopw [65] (fun t wx => ∃ j : Nat, j ≤ v.needs.length ∧ t = .int .i64 j ∧ RBox wx wc.heap.size (rawJ (Pv.refNum L) v j) ∧ VRow wx w.heap.size (.slice A63 v.needs.length c63) v.needs ∧ RRow wx w.heap.size u3 acc ∧ Below w.heap.size w wx) (fun t _ => v.needs.length - (intOf t).toNat)
              case atStart => exact HST.out
              case round =>
                clear HST
                obtain ⟨j, hjl, rfl, hbx, h63, h3, hB⟩ := hrel
                have MX := Lib.hid hbx
                have M63 := Lib.hid h63
                have M3 := Lib.hid h3
                have M := Lib.hid hB
                clear hbx h63 h3 hB
                by_cases hj : j < v.needs.length
                · obtain ⟨g2, o2, x, e63, hg2, hx2, e0, e1, e2, e3, e4, e5⟩ := M63.out.vals.at_ hj
                  subst e63
                  have p1' : decide ((j : Int) < (v.needs.length : Int)) = true := decide_eq_true (by omega)
                  have p2' : decide (j < v.needs.length) = true := decide_eq_true hj
                  have HXN := Lib.hid hx2
                  have kb := Lib.hid ((Below.refl wr.heap.size wr).alloc (Nat.le_refl _) (.cells #[.int .i64 x.tag, .string (bs x.text), .int .u64 x.bits, .string (bs x.cls), .string (bs x.name), .string (bs x.desc)] 25))
                  have qb := Lib.hid (vbox_new wr x)
                  clear hx2
                  by_cases hj0 : j = 0
                  · subst hj0
                    simp only [Nat.zero_mul, Nat.add_zero] at e0 e1 e2 e3 e4 e5
                    have hset := fun (y : World) (hb : RBox y wc.heap.size (rawJ (Pv.refNum L) v 0)) => RBox.set hb 3 (.int .i64 ((Pv.refNum L x : Nat) : Int)) (rawJ (Pv.refNum L) v (0 + 1)) (by unfold rawJ; rw [HXN.out]; rfl)
                    have HSET := Lib.hid hset
                    clear hset
                    go_wp2_with fail
                    generalize wr.alloc (.cells #[.int .i64 x.tag, .string (bs x.text), .int .u64 x.bits, .string (bs x.cls), .string (bs x.name), .string (bs x.desc)] 25) = W at kb qb ⊢
                    refine (HNU.out x W (HX.out.grow (M.out.trans (kb.out.mono M.out.size)))).mono ?_
                    rintro e y2 ⟨rfl, hb2⟩
                    have KB := Lib.hid (kb.out.trans (hb2.mono kb.out.size))
                    have NX := Lib.hid (MX.out.keep KB.out MX.out.lt)
                    have N63 := Lib.hid (M63.out.grow KB.out)
                    have N3 := Lib.hid (M3.out.grow KB.out)
                    have NB := Lib.hid (M.out.trans (KB.out.mono M.out.size))
                    have hcx := (blk_facts NX.out).1 3
                    have hfx := (blk_facts NX.out).2 3
                    have hbz := NX.out.lt
                    clear hb2 kb qb
                    go_wp2
                    have hgr := Lib.hid (grownBy_set y2 wc.heap.size 3 NX.out (.int .i64 ((Pv.refNum L x : Nat) : Int)))
                    clear hcx hfx
                    go_roundw
                    case rel => exact ⟨0 + 1, by omega, by go_num, HSET.out y2 NX.out, N63.out.kept hgr.out (fun k hk e => by
                        cases e
                        exact own_ne N63.out NX.out (by decide) hk.symm), N3.out.kept hgr.out (fun k hk e => by
                        cases e
                        exact Nat.lt_irrefl _ (HNE.out _ hk)), NB.out.setCell (p := ⟨wc.heap.size, 3, none⟩) hwb _⟩
                    case measure => simp [intOf]; omega
                  · obtain rfl : j = 1 := by omega
                    have hset := fun (y : World) (hb : RBox y wc.heap.size (rawJ (Pv.refNum L) v 1)) => RBox.set hb 4 (.int .i64 ((Pv.refNum L x : Nat) : Int)) (rawJ (Pv.refNum L) v (1 + 1)) (by unfold rawJ; rw [HXN.out]; rfl)
                    have HSET := Lib.hid hset
                    clear hset
                    go_wp2_with fail
                    generalize wr.alloc (.cells #[.int .i64 x.tag, .string (bs x.text), .int .u64 x.bits, .string (bs x.cls), .string (bs x.name), .string (bs x.desc)] 25) = W at kb qb ⊢
                    refine (HNU.out x W (HX.out.grow (M.out.trans (kb.out.mono M.out.size)))).mono ?_
                    rintro e y2 ⟨rfl, hb2⟩
                    have KB := Lib.hid (kb.out.trans (hb2.mono kb.out.size))
                    have NX := Lib.hid (MX.out.keep KB.out MX.out.lt)
                    have N63 := Lib.hid (M63.out.grow KB.out)
                    have N3 := Lib.hid (M3.out.grow KB.out)
                    have NB := Lib.hid (M.out.trans (KB.out.mono M.out.size))
                    have hcx := (blk_facts NX.out).1 4
                    have hfx := (blk_facts NX.out).2 4
                    have hbz := NX.out.lt
                    clear hb2 kb qb
                    go_wp2
                    have hgr := Lib.hid (grownBy_set y2 wc.heap.size 4 NX.out (.int .i64 ((Pv.refNum L x : Nat) : Int)))
                    clear hcx hfx
                    go_roundw
                    case rel => exact ⟨1 + 1, by omega, by go_num, HSET.out y2 NX.out, N63.out.kept hgr.out (fun k hk e => by
                        cases e
                        exact own_ne N63.out NX.out (by decide) hk.symm), N3.out.kept hgr.out (fun k hk e => by
                        cases e
                        exact Nat.lt_irrefl _ (HNE.out _ hk)), NB.out.setCell (p := ⟨wc.heap.size, 4, none⟩) hwb _⟩
                    case measure => simp [intOf]; omega
                · obtain rfl : j = v.needs.length := by omega
                  have p1' : decide ((v.needs.length : Int) < (v.needs.length : Int)) = false := decide_eq_false (by omega)
                  have p2' : decide (v.needs.length < v.needs.length) = false := decide_eq_false (by omega)
                  rw [rawJ_end] at MX
                  generalize v.rawRef (Pv.refNum L) = rv at *
                  obtain ⟨f0, f1, f2, f3, f4⟩ := MX.out.at_
                  have hbz := MX.out.lt
                  have kz := Lib.hid ((Below.refl wr.heap.size wr).alloc (Nat.le_refl _) (.cells #[.int .i64 rv.tag, .string (bs rv.text), .int .u64 rv.bits, .int .i64 rv.a, .int .i64 rv.b] 49))
                  go_wp2_with (at_builtin; refine wpList_appR rfl _ _ rfl w.heap.size _ acc rfl (M3.out.grow kz.out) _ [rv] rfl (src_raw (heap_alloc_new _ _) 1) (by simp; omega) (Nat.le_trans M.out.size kz.out.size) ?_; intro v5 x5 hr5 hp5)
                  have N := Lib.hid hr5
                  have NB := Lib.hid ((M.out.trans (kz.out.mono M.out.size)).trans (hp5.below (Nat.le_trans M.out.size kz.out.size) (fun k hk => M3.out.base_le hk)))
                  clear hr5 hp5
                  go_roundw
                  case rel => exact ⟨i + 1, false, acc ++ [rv], by omega, by go_num, rfl, HS3.out, by simp; omega, N.out, NB.out⟩
                  case measure => simp [intOf]; omega
    · obtain rfl : i = L.length := by omega
      have p1 : decide ((L.length : Int) < (L.length : Int)) = false := decide_eq_false (by omega)
      have p2 : decide (L.length < L.length) = false := decide_eq_false (by omega)
      have HF := Lib.hid (show RRow wr w.heap.size _ (Pv.rawsOf L) from HS.out.fin ▸ HR.out)
      go_wp2
      go_ret
      exact ⟨_, rfl, HF.out, HB.out⟩
end Go.Proofs.Ytimheacdaafodaa
