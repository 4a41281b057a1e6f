/- prefix.Words. -/
import Derived.Test.YtjbbhfloomejoaaPfA
namespace Go.Proofs.Ytjbbhfloomejoaa
open Go.RowKit
theorem infoU32 : (Try.prog.info? 40).map (fun i => (i.zero, i.size, i.bytes)) = some (some (.int .u32 0), 1, 4) := by kernel_rfl
theorem zeros17 : (#[Value.int .u32 0, Value.int .u32 0, Value.int .u32 0, Value.int .u32 0, Value.int .u32 0, Value.int .u32 0, Value.int .u32 0, Value.int .u32 0, Value.int .u32 0, Value.int .u32 0, Value.int .u32 0, Value.int .u32 0, Value.int .u32 0, Value.int .u32 0, Value.int .u32 0, Value.int .u32 0, Value.int .u32 0] : Array Value) = (Fu 17 fun _ => 0).toArray := rfl
theorem zeros16 : (#[Value.int .u32 0, Value.int .u32 0, Value.int .u32 0, Value.int .u32 0, Value.int .u32 0, Value.int .u32 0, Value.int .u32 0, Value.int .u32 0, Value.int .u32 0, Value.int .u32 0, Value.int .u32 0, Value.int .u32 0, Value.int .u32 0, Value.int .u32 0, Value.int .u32 0, Value.int .u32 0] : Array Value) = (Fu 16 fun _ => 0).toArray := rfl
/-- The first words, as they stand behind i lengths. -/
def Pf.at_ (l : List Nat) (i : Nat) (k : Nat) : Nat := if k = 0 ∨ 15 < k then 0 else Pf.nx l k + (l.take i).count k
theorem make_fresh {w w' : World} {n : Nat} (h : w'.ownsRow w.heap.size 40 1 (.slice (some ⟨w.heap.size, 0, none⟩) n n) n (madeCells (Value.int .u32 0).cells (n * 1)).toList) : UB w' w.heap.size n 40 (fun _ => 0) := by
  rcases h.2 with ⟨e, _⟩ | ⟨g, cap, cur, e, _, hg, _, _, hs, ht⟩
  · injection e with q1 q2 q3; cases q1
  · injection e with q1 q2 q3
    cases q1
    subst q3
    have e1 : cur.toList = (Fu n fun _ => 0) := by
      rw [Nat.mul_one] at ht hs
      rw [List.take_of_length_le (by simp [hs])] at ht
      rw [ht]
      unfold madeCells Fu
      rw [Array.toList_map, Array.toList_range]
      refine List.map_congr_left fun k _ => ?_
      show (#[Value.int .u32 0] : Array Value)[k % 1]! = _
      rw [Nat.mod_one]
      rfl
    show _ = _
    rw [hg, ← e1]
set_option maxHeartbeats 8000000 in
set_option maxRecDepth 100000 in
theorem words_any (A : Option Addr) (c : Nat) (l : List Nat) (w : World) (h : Ints w A c (il l)) (hl : ∀ n ∈ l, n ≤ 15) (hn : l.length ≤ 1000) (hk : Pf.kind l ≠ 0) :
    Calls Try.prog 70 #[.slice A l.length c] w fun e w' => ∃ G, e = .returned (.tuple #[.slice (some ⟨G, 0, none⟩) l.length l.length, .int .i64 0]) ∧ UB w' G l.length 40 (Pf.wd l) ∧ w.heap.size ≤ G ∧ Below w.heap.size w w' := by
  have HK := Lib.hid (kind_any A c l w h hl (by omega))
  have HX := Lib.hid h
  have HL := Lib.hid hl
  have q0 : (((Pf.kind l : Nat) : Int) == 0) = false := beq_eq_false_iff_ne.2 (by omega)
  clear h hl
  have k1 := (Below.refl w.heap.size w).alloc (Nat.le_refl _) (.cells (Fu 17 fun _ => 0).toArray 138)
  have hs1 : (w.alloc (.cells (Fu 17 fun _ => 0).toArray 138)).heap.size = w.heap.size + 1 := by show (w.heap.push _).size = _; simp
  have hG := heap_alloc_new (w.alloc (.cells (Fu 17 fun _ => 0).toArray 138)) (.cells (Fu 16 fun _ => 0).toArray 139)
  have k2 := (Below.refl (w.alloc (.cells (Fu 17 fun _ => 0).toArray 138)).heap.size (w.alloc (.cells (Fu 17 fun _ => 0).toArray 138))).alloc (Nat.le_refl _) (.cells (Fu 16 fun _ => 0).toArray 139)
  have hR := (k2.block _ (by rw [hs1]; omega)).trans (heap_alloc_new w (.cells (Fu 17 fun _ => 0).toArray 138))
  have K0 := Lib.hid (k1.trans (k2.mono k1.size))
  rw [hs1] at hG
  have HN := Lib.hid (show UB _ w.heap.size 17 138 (fun _ => 0) from hR)
  have HC := Lib.hid (show UB _ (w.heap.size + 1) 16 139 (fun _ => 0) from hG)
  clear k1 hs1 hG k2 hR
  go_enter Try.func70, Try.ntmps70
  go_wp2_with fail
  refine HK.out.mono ?_
  rintro e w1 ⟨rfl, rfl⟩
  clear HK
  go_upto_region 6 with fail
  rw [zeros17, zeros16]
  generalize (w1.alloc (.cells (Fu 17 fun _ => 0).toArray 138)).alloc (.cells (Fu 16 fun _ => 0).toArray 139) = W0 at HN HC K0 ⊢
  clear q0
  go_loopw [17] (fun s17 wr => ∃ i : Nat, i ≤ l.length ∧ s17 = .int .i64 (i : Nat) ∧ UB wr (w1.heap.size + 1) 16 139 (fun k => (l.take i).count k) ∧ UB wr w1.heap.size 17 138 (fun _ => 0) ∧ Below w1.heap.size w1 wr) (fun s17 _ => l.length - (intOf s17).toNat)
  case atStart => exact ⟨0, Nat.zero_le _, rfl, HC.out, HN.out, K0.out⟩
  case round =>
    obtain ⟨i, hi, rfl, hC, hN, hK⟩ := hrel
    have HC1 := Lib.hid hC
    have HN1 := Lib.hid hN
    have K := Lib.hid hK
    clear HC HN K0 hN
    by_cases h1 : i < l.length
    · as_aux_lemma =>
      obtain ⟨g, o, n', rfl, hgz, hx, hc⟩ := (HX.out.grow K.out).at_ (i := i) (by rw [il_len]; exact h1)
      obtain ⟨n, hln⟩ : ∃ n, l[i]? = some n := ⟨_, List.getElem?_eq_getElem h1⟩
      rw [il_get hln] at hx
      cases hx
      have hn15 := HL.out n (List.mem_of_getElem? hln)
      have q1 : ¬ ((n : Int) < 0) := by omega
      have q2 : (n : Int) < 16 := by omega
      have q3 : ¬ ((i : Int) < 0) := by omega
      have c1 := hC.cell (k := n) (by omega)
      have hcn : (l.take i).count n ≤ 1000 := Nat.le_trans List.count_le_length (by rw [List.length_take]; omega)
      have f1 := (blk_facts hC).2 n
      have fz := hC.lt
      obtain ⟨ct, HCT⟩ : ∃ ct, Hid (ct = (l.take i).count n) := ⟨_, Lib.hid rfl⟩
      rw [← HCT.out] at c1 hcn
      have HLN := Lib.hid hln
      clear hln hC hK
      go_wp2_with fail
      refine ⟨⟨i + 1, h1, rfl, HC1.out.set (c := ct + 1) (fun k hk => ?_), HN1.out.else_ _ (by omega), K.out.setCell (show w1.heap.size ≤ w1.heap.size + 1 by omega) _⟩, next_less h1⟩
      rw [take_next HLN.out, List.count_append, List.count_singleton]
      by_cases e : k = n
      · subst e; simp [HCT.out]
      · rw [if_neg e, if_neg (by simpa using fun h => e h.symm)]; rfl
    · as_aux_lemma =>
      have hie : i = l.length := by omega
      subst hie
      have c1 := hC.cell (k := 0) (by omega)
      have f1 := (blk_facts hC).2 0
      have fz := hC.lt
      have HC2 := Lib.hid (show UB (wr.setCell ⟨w1.heap.size + 1, 0, none⟩ (.int .u32 0)) (w1.heap.size + 1) 16 139 (Pf.cnt l) from hC.set (c := 0) (fun k hk => by unfold Pf.cnt; rw [List.take_length]))
      have HN2 := Lib.hid (show UB (wr.setCell ⟨w1.heap.size + 1, 0, none⟩ (.int .u32 0)) w1.heap.size 17 138 (fun k => if k < 1 then Pf.nx l k else 0) from (HN1.out.else_ _ (by omega)).ext (fun k hk => by
        by_cases e : k = 0
        · subst e; rfl
        · rw [if_neg (by omega)]))
      have K2 := Lib.hid (K.out.setCell (p := ⟨w1.heap.size + 1, 0, none⟩) (show w1.heap.size ≤ w1.heap.size + 1 by omega) (.int .u32 0))
      clear hC HC1 HN1 K hK
      go_upto_region 12 with fail
      clear c1 f1 fz
      generalize wr.setCell ⟨w1.heap.size + 1, 0, none⟩ (.int .u32 0) = W1 at HC2 HN2 K2 ⊢
      go_loopw [8] (fun s8 wr => ∃ m : Nat, m ≤ 15 ∧ s8 = .int .i64 ((m : Int) + 1) ∧ UB wr (w1.heap.size + 1) 16 139 (Pf.cnt l) ∧ UB wr w1.heap.size 17 138 (fun k => if k < m + 1 then Pf.nx l k else 0) ∧ Below w1.heap.size w1 wr) (fun s8 _ => 16 - (intOf s8).toNat)
      case atStart => exact ⟨0, by decide, rfl, HC2.out, HN2.out, K2.out⟩
      case round =>
        obtain ⟨m, hm, rfl, hC, hN, hK⟩ := hrel
        have HC1 := Lib.hid hC
        have HN1 := Lib.hid hN
        have K := Lib.hid hK
        clear HC2 HN2 K2
        by_cases h2 : m < 15
        · as_aux_lemma =>
          have c1 := hC.cell (k := m) (by omega)
          have c2 := hN.cell (k := m) (by omega)
          rw [if_pos (by omega)] at c2
          have c3 := hN.cell (k := m + 1) (by omega)
          have f1 := (blk_facts hN).2 (m + 1)
          have fz := hN.lt
          have fz2 := hC.lt
          have b1 := Pf.nx_most l hn hm
          have b2 := Nat.le_trans (Pf.cnt_le l m) hn
          have NX := Lib.hid (show Pf.nx l (m + 1) = (Pf.nx l m + Pf.cnt l m) * 2 from rfl)
          have i1 : ¬ ((m : Int) < 0) := by omega
          have i2 : (m : Int) < 17 := by omega
          have i3 : (m : Int) < 16 := by omega
          have i4 : ((m : Int) + 1) < 17 := by omega
          have i5 : ((m : Int) + 1) ≤ 15 := by omega
          generalize Pf.nx l m = nm at c2 b1 NX
          generalize Pf.cnt l m = cm at c1 b2 NX
          clear hC hN hK
          go_upto_region 14 with fail
          go_region
          have KD : Below w1.heap.size w1 (wr.setCell ⟨w1.heap.size, m + 1, none⟩ (.int .u32 ((((nm + cm) * 2 : Nat)) : Int))).drew := (K.out.setCell (Nat.le_refl _) _).drew
          have kd : Below (wr.setCell ⟨w1.heap.size, m + 1, none⟩ (.int .u32 ((((nm + cm) * 2 : Nat)) : Int))).heap.size (wr.setCell ⟨w1.heap.size, m + 1, none⟩ (.int .u32 ((((nm + cm) * 2 : Nat)) : Int))) (wr.setCell ⟨w1.heap.size, m + 1, none⟩ (.int .u32 ((((nm + cm) * 2 : Nat)) : Int))).drew := (Below.refl _ _).drew
          have HN3 := Lib.hid (UB.grow (HN1.out.set (i := m + 1) (c := (nm + cm) * 2) (g := fun k => if k < m + 2 then Pf.nx l k else 0) (fun k hk => by
            by_cases e : k = m + 1
            · subst e; rw [if_pos (by omega), if_pos rfl, NX.out]
            · rw [if_neg e]
              by_cases e2 : k < m + 1
              · rw [if_pos (by omega), if_pos e2]
              · rw [if_neg (by omega), if_neg e2])) kd)
          have HC3 := Lib.hid (UB.grow (HC1.out.else_ (b := w1.heap.size) (i := m + 1) (.int .u32 ((((nm + cm) * 2 : Nat)) : Int)) (by omega)) kd)
          have K3 := Lib.hid KD
          clear KD kd c1 c2 c3 f1 fz fz2 HC1 HN1 K NX
          rw [show (((nm : Int) + (cm : Int)) * 2) = ((((nm + cm) * 2 : Nat)) : Int) by push_cast; rfl]
          generalize (wr.setCell ⟨w1.heap.size, m + 1, none⟩ (.int .u32 ((((nm + cm) * 2 : Nat)) : Int))).drew = W3 at HN3 HC3 K3 ⊢
          go_wp2_with fail
          refine ⟨⟨m + 1, by omega, rfl, HC3.out, HN3.out, K3.out⟩, ?_⟩
          show 16 - ((m : Int) + 1 + 1).toNat < 16 - ((m : Int) + 1).toNat
          omega
        · as_aux_lemma =>
          obtain rfl : m = 15 := by omega
          have HN2 := Lib.hid (show UB wr w1.heap.size 17 138 (Pf.at_ l 0) from hN.ext (fun k hk => by
            unfold Pf.at_
            rw [List.take_zero, List.count_nil]
            by_cases e : k = 0
            · subst e; rw [if_pos (by omega), if_pos (by omega)]; rfl
            · by_cases e2 : k < 16
              · rw [if_pos e2, if_neg (by omega)]; rfl
              · rw [if_neg e2, if_pos (by omega)]))
          clear hC hN hK HC1 HN1
          have hsz : w1.heap.size < wr.heap.size := HN2.out.lt
          obtain ⟨i0, hi0, hz0, hz1, hz2⟩ := info_parts infoU32
          go_upto_region 15 with fail
          go_wp2_with (at_make; refine wpList_make_full wr rfl _ _ _ rfl wr.heap.size 40 i0 _ 1 Try.underlying112 hi0 hz0 hz1 .i64 .i64 _ _ l.length rfl rfl rfl rfl (by rw [hz2]; omega) (by unfold maxLen; omega) (Nat.le_refl _) ?_; intro w4 hown hgr)
          have kg : Below wr.heap.size wr w4 := ⟨hgr.os, hgr.tape, hgr.output, hgr.size, fun k hk => hgr.block k hk (by simp)⟩
          have HO4 := Lib.hid ((make_fresh hown).ext (g := fun k => if k < 0 then Pf.wd l k else 0) (fun k _ => by rw [if_neg (by omega)]))
          have HN4 := Lib.hid (HN2.out.grow kg)
          have K4 := Lib.hid (K.out.trans (kg.mono K.out.size))
          clear hown hgr kg HN2 K hi0 hz0 hz1 hz2
          obtain ⟨G, hG⟩ : ∃ G, G = wr.heap.size := ⟨_, rfl⟩
          rw [← hG] at HO4 hsz ⊢
          clear hG
          go_loopw [49] (fun s49 wr => ∃ i : Nat, i ≤ l.length ∧ s49 = .int .i64 (i : Nat) ∧ UB wr G l.length 40 (fun k => if k < i then Pf.wd l k else 0) ∧ UB wr w1.heap.size 17 138 (Pf.at_ l i) ∧ Below w1.heap.size w1 wr) (fun s49 _ => l.length - (intOf s49).toNat)
          case atStart => exact ⟨0, Nat.zero_le _, rfl, HO4.out, HN4.out, K4.out⟩
          case round =>
            obtain ⟨i, hi, rfl, hO, hN, hK⟩ := hrel
            have HO1 := Lib.hid hO
            have HN1 := Lib.hid hN
            have K := Lib.hid hK
            clear HO4 HN4 K4
            by_cases h3 : i < l.length
            · as_aux_lemma =>
              obtain ⟨g, o, n', rfl, hgz, hx, hc⟩ := (HX.out.grow K.out).at_ (i := i) (by rw [il_len]; exact h3)
              obtain ⟨n, hln⟩ : ∃ n, l[i]? = some n := ⟨_, List.getElem?_eq_getElem h3⟩
              rw [il_get hln] at hx
              cases hx
              have hn15 := HL.out n (List.mem_of_getElem? hln)
              have q3 : ¬ ((i : Int) < 0) := by omega
              have HLN := Lib.hid hln
              have WD := Lib.hid (Pf.wd_get hln)
              clear hln
              by_cases h0 : n = 0
              · subst h0
                clear hO hN hK
                go_wp2_with fail
                refine ⟨⟨i + 1, h3, rfl, HO1.out.ext (fun k hk => ?_), HN1.out.ext (fun k hk => ?_), K.out⟩, next_less h3⟩
                · by_cases e : k = i
                  · subst e; rw [if_neg (by omega), if_pos (by omega), WD.out, if_pos rfl]
                  · by_cases e2 : k < i
                    · rw [if_pos e2, if_pos (by omega)]
                    · rw [if_neg e2, if_neg (by omega)]
                · unfold Pf.at_
                  rw [take_next HLN.out, List.count_append, List.count_singleton]
                  by_cases e : k = 0 ∨ 15 < k
                  · rw [if_pos e, if_pos e]
                  · rw [if_neg e, if_neg e, if_neg (by simp; omega)]; rfl
              · have c1 := hN.cell (k := n) (by omega)
                have f1 := (blk_facts hN).2 n
                have fz := hN.lt
                have c2 := hO.cell (k := i) h3
                rw [if_neg (by omega)] at c2
                have f2 := (blk_facts hO).2 i
                have fz2 := hO.lt
                have hcn : (l.take i).count n ≤ 1000 := Nat.le_trans List.count_le_length (by rw [List.length_take]; omega)
                have b1 := Pf.nx_most l hn hn15
                have AT := Lib.hid (show Pf.at_ l i n = Pf.nx l n + (l.take i).count n by unfold Pf.at_; rw [if_neg (by omega)])
                obtain ⟨a, HA⟩ : ∃ a, Hid (a = Pf.at_ l i n) := ⟨_, Lib.hid rfl⟩
                have ha : a ≤ 65537000 := by rw [HA.out, AT.out]; omega
                rw [← HA.out] at c1
                have HN5 := HN1.out.else_ (b := G) (i := i) (.int .u32 (a : Nat)) (by omega)
                have c3 := HN5.cell (k := n) (by omega)
                rw [← HA.out] at c3
                have f3 := (blk_facts HN5).2 n
                have fz3 := HN5.lt
                have HO5 := Lib.hid (HO1.out.set (i := i) (c := a) (g := fun k => if k < i + 1 then Pf.wd l k else 0) (fun k hk => by
                  by_cases e : k = i
                  · subst e; rw [if_pos (by omega), if_pos rfl, WD.out, if_neg h0, HA.out, AT.out]
                  · rw [if_neg e]
                    by_cases e2 : k < i
                    · rw [if_pos e2, if_pos (by omega)]
                    · rw [if_neg e2, if_neg (by omega)]))
                have HN6 := Lib.hid (HN5.set (i := n) (c := a + 1) (g := Pf.at_ l (i + 1)) (fun k hk => by
                  by_cases e : k = n
                  · subst e
                    rw [if_pos rfl, HA.out]
                    unfold Pf.at_
                    rw [if_neg (by omega), if_neg (by omega), take_next HLN.out, List.count_append, List.count_singleton]
                    simp
                    omega
                  · rw [if_neg e]
                    unfold Pf.at_
                    by_cases e2 : k = 0 ∨ 15 < k
                    · rw [if_pos e2, if_pos e2]
                    · rw [if_neg e2, if_neg e2, take_next HLN.out, List.count_append, List.count_singleton, if_neg (by simpa using fun h => e h.symm)]; rfl))
                have HO6 := Lib.hid (HO5.out.else_ (b := w1.heap.size) (i := n) (.int .u32 ((a + 1 : Nat) : Int)) (by omega))
                have K6 := Lib.hid ((K.out.setCell (p := ⟨G, i, none⟩) (show w1.heap.size ≤ G by omega) (.int .u32 (a : Nat))).setCell (p := ⟨w1.heap.size, n, none⟩) (Nat.le_refl _) (.int .u32 ((a + 1 : Nat) : Int)))
                have q4 : (n : Int) > 0 := by omega
                have q5 : (n : Int) < 17 := by omega
                have q6 : ¬ ((n : Int) < 0) := by omega
                clear hO hN hK HN5 HO1 HN1 K HO5 WD AT HA hcn b1
                go_wp2_with fail
                exact ⟨⟨i + 1, h3, rfl, HO6.out, HN6.out, K6.out⟩, next_less h3⟩
            · as_aux_lemma =>
              have hie : i = l.length := by omega
              subst hie
              have HO2 := Lib.hid (HO1.out.ext (g := Pf.wd l) (fun k hk => by rw [if_pos hk]))
              clear hO hN hK HO1 HN1
              go_wp2_with fail
              go_ret2
              exact ⟨G, rfl, HO2.out, by omega, K.out⟩
end Go.Proofs.Ytjbbhfloomejoaa
