/- The walk of layer 25's reference: the favorites. -/
import Derived.Test.YteegpbdkalpeiaaPlainC
import Derived.Test.YteegpbdkalpeiaaWalksG
namespace Go.Proofs.Yteegpbdkalpeiaa
open Go.RowKit Go.Maps

/-- What the call comes to. -/
def FavRes (l : List Int) (most : Int) (w : World) (e : Ending) (w' : World) : Prop :=
  ∃ A c, e = .returned (.slice A (Po.favs l most.toNat).length c) ∧ Ints w' A c (Po.favs l most.toNat) ∧ Below w.heap.size w w'

set_option maxHeartbeats 8000000 in
set_option maxRecDepth 100000 in
theorem rfav_any (A : Option Addr) (c : Nat) (l : List Int) (most : Int) (w : World) (hx : Ints w A c l) (hn : l.length ≤ 100000) :
    Calls Try.prog 11 #[.slice A l.length c, .int .i64 most] w (FavRes l most w) := by
  have HX := Lib.hid hx
  clear hx
  go_enter Try.func11, Try.ntmps11
  go_wp2_with fail
  go_loopg [5] l.length (fun g a wr => ∃ k : Nat, l.length - k ≤ g ∧ IRow wr w.heap.size a (Po.favs l k) ∧ (Po.favs l k).length = k ∧ k ≤ most.toNat ∧ Below w.heap.size w wr)
  case atStart => exact ⟨0, by omega, IRow.nil _ _, rfl, Nat.zero_le _, Below.refl _ _⟩
  case round =>
    obtain ⟨k, hg, hrow, hlen, hkm, hB⟩ := hrel
    have HB := Lib.hid hB
    have HO := Lib.hid hrow
    obtain ⟨A2, c2, rfl, hrd⟩ := hrow.reads
    have HRD := Lib.hid hrd
    have hle := Po.favs_le l k
    have HXr := Lib.hid (HX.out.grow hB)
    have hzr := hB.size
    have HLEN := Lib.hid hlen
    rw [hlen] at hle ⊢
    clear hB hrow hrd hlen
    by_cases hlt : (k : Int) < most
    · have q : decide ((k : Int) < most) = true := by simp [hlt]
      have hk1 : k + 1 ≤ most.toNat := by omega
      have HCl := Lib.hid (fun v => count_any A c l v wr HXr.out (by omega))
      have HCo := Lib.hid (fun v => count_any A2 c2 (Po.favs l k) v wr HRD.out (by rw [HLEN.out]; omega))
      have HSUC := Lib.hid (Po.favs_succ l k)
      have HLE1 := Lib.hid (Po.favs_le l (k + 1))
      rw [HLEN.out] at HCo
      generalize hout : Po.favs l k = out at *
      have HOUT := Lib.hid hout
      clear hlt hout
      go_wp2_with fail
      go_loop [6, 7, 17] (fun b s u => ∃ j : Nat, j ≤ l.length ∧ u = .int .i64 j ∧ b = .int .i64 ((Po.next l out (l.take j)).getD 0) ∧ s = .bool (Po.next l out (l.take j)).isSome) (fun _ _ u => l.length - (intOf u).toNat)
      case atStart => exact ⟨0, Nat.zero_le _, rfl, rfl, rfl⟩
      case round =>
        obtain ⟨j, hjl, rfl, rfl, rfl⟩ := hrel
        by_cases h1 : j < l.length
        · obtain ⟨g2, o2, x, rfl, hg2, hxi, hct⟩ := HXr.out.at_ h1
          have htk := Lib.hid (show Po.next l out (l.take (j + 1)) = Po.pick l out (Po.next l out (l.take j)) x by rw [take_snocI l j x hxi, Po.next_snoc])
          clear hxi
          generalize hr : Po.next l out (l.take j) = r at htk ⊢
          clear hr
          have hF := Lib.hid (HCl.out x)
          have hR := Lib.hid (HCo.out x)
          have hce : l.count x ≤ 1000000 := Nat.le_trans List.count_le_length (by omega)
          have hcr : out.count x ≤ 1000000 := Nat.le_trans List.count_le_length (by rw [HLEN.out]; omega)
          generalize hcn : l.count x = n at hF hce
          generalize hcm : out.count x = m at hR hcr
          have HCN := Lib.hid hcn
          have HCM := Lib.hid hcm
          clear hcn hcm
          by_cases hn2 : n < 2
          · have q1 : decide (n < 2) = true := by simp [hn2]
            have q1' : decide ((n : Int) < 2) = true := decide_eq_true (by omega)
            have hp := Lib.hid (htk.out.trans (if_pos (.inl (by rw [HCN.out]; exact hn2))))
            clear hn2
            go_wp2_with fail
            refine hF.out.mono ?_
            rintro e w' ⟨rfl, rfl⟩
            go_wp2
            go_round
            case rel => exact ⟨j + 1, by omega, by go_num, by rw [hp.out], by rw [hp.out]⟩
            case measure => simp [intOf]; omega
          · have q1 : decide (n < 2) = false := by simp; omega
            have q1' : decide ((n : Int) < 2) = false := decide_eq_false (by omega)
            by_cases hm0 : 0 < m
            · have q2 : decide (0 < m) = true := by simp [hm0]
              have q2' : decide ((0 : Int) < (m : Int)) = true := decide_eq_true (by omega)
              have hp := Lib.hid (htk.out.trans (if_pos (.inr (by rw [HCM.out]; exact hm0))))
              clear hn2 hm0
              go_wp2_with fail
              refine hF.out.mono ?_
              rintro e w' ⟨rfl, rfl⟩
              go_wp2_with fail
              refine hR.out.mono ?_
              rintro e w' ⟨rfl, rfl⟩
              go_wp2
              go_round
              case rel => exact ⟨j + 1, by omega, by go_num, by rw [hp.out], by rw [hp.out]⟩
              case measure => simp [intOf]; omega
            · have q2 : decide (0 < m) = false := decide_eq_false hm0
              have q2' : decide ((0 : Int) < (m : Int)) = false := decide_eq_false (by omega)
              have hno := Lib.hid (show ¬ Po.no l out x from by unfold Po.no; rw [HCN.out, HCM.out]; omega)
              have htk2 := Lib.hid (htk.out.trans (if_neg hno.out))
              clear hn2 hm0 htk
              cases r with
              | none =>
                have hp := Lib.hid (htk2.out.trans (if_neg (by rintro ⟨b, hb, _⟩; cases hb)))
                go_wp2_with fail
                refine hF.out.mono ?_
                rintro e w' ⟨rfl, rfl⟩
                go_wp2_with fail
                refine hR.out.mono ?_
                rintro e w' ⟨rfl, rfl⟩
                go_wp2
                go_round
                case rel => exact ⟨j + 1, by omega, by go_num, by rw [hp.out]; rfl, by rw [hp.out]; rfl⟩
                case measure => simp [intOf]; omega
              | some b =>
                have hG := Lib.hid (HCl.out b)
                have hcb : l.count b ≤ 1000000 := Nat.le_trans List.count_le_length (by omega)
                generalize hcp : l.count b = p at hG hcb
                have HCP := Lib.hid hcp
                clear hcp
                simp only [Option.getD_some, Option.isSome_some]
                by_cases hpn : p < n
                · have q3 : decide (p < n) = true := by simp [hpn]
                  have q3' : decide ((p : Int) < (n : Int)) = true := decide_eq_true (by omega)
                  have hp := Lib.hid (htk2.out.trans (if_neg (by rintro ⟨c, hc, h2⟩; cases hc; exact h2 (.inl (by rw [HCN.out, HCP.out]; exact hpn)))))
                  clear hpn
                  go_wp2_with fail
                  refine hF.out.mono ?_
                  rintro e w' ⟨rfl, rfl⟩
                  go_wp2_with fail
                  refine hR.out.mono ?_
                  rintro e w' ⟨rfl, rfl⟩
                  go_wp2_with fail
                  refine hG.out.mono ?_
                  rintro e w' ⟨rfl, rfl⟩
                  go_wp2
                  go_round
                  case rel => exact ⟨j + 1, by omega, by go_num, by rw [hp.out]; rfl, by rw [hp.out]; rfl⟩
                  case measure => simp [intOf]; omega
                · have q3 : decide (p < n) = false := decide_eq_false hpn
                  have q3' : decide ((p : Int) < (n : Int)) = false := decide_eq_false (by omega)
                  by_cases hnp : n = p
                  · have q4 : (n == p) = true := by simp [hnp]
                    have q4' : ((n : Int) == (p : Int)) = true := by simp [hnp]
                    by_cases hxb : x < b
                    · have q5 : decide (x < b) = true := by simp [hxb]
                      have hp := Lib.hid (htk2.out.trans (if_neg (by rintro ⟨c, hc, h2⟩; cases hc; exact h2 (.inr ⟨by rw [HCN.out, HCP.out]; exact hnp, hxb⟩))))
                      clear hpn hnp hxb
                      go_wp2_with fail
                      refine hF.out.mono ?_
                      rintro e w' ⟨rfl, rfl⟩
                      go_wp2_with fail
                      refine hR.out.mono ?_
                      rintro e w' ⟨rfl, rfl⟩
                      go_wp2_with fail
                      refine hG.out.mono ?_
                      rintro e w' ⟨rfl, rfl⟩
                      go_wp2_with fail
                      refine hG.out.mono ?_
                      rintro e w' ⟨rfl, rfl⟩
                      go_wp2
                      go_round
                      case rel => exact ⟨j + 1, by omega, by go_num, by rw [hp.out]; rfl, by rw [hp.out]; rfl⟩
                      case measure => simp [intOf]; omega
                    · have q5 : decide (x < b) = false := decide_eq_false hxb
                      have hp := Lib.hid (htk2.out.trans (if_pos ⟨b, rfl, by unfold Po.bef; rw [HCN.out, HCP.out]; omega⟩))
                      clear hpn hnp hxb
                      go_wp2_with fail
                      refine hF.out.mono ?_
                      rintro e w' ⟨rfl, rfl⟩
                      go_wp2_with fail
                      refine hR.out.mono ?_
                      rintro e w' ⟨rfl, rfl⟩
                      go_wp2_with fail
                      refine hG.out.mono ?_
                      rintro e w' ⟨rfl, rfl⟩
                      go_wp2_with fail
                      refine hG.out.mono ?_
                      rintro e w' ⟨rfl, rfl⟩
                      go_wp2
                      go_round
                      case rel => exact ⟨j + 1, by omega, by go_num, by rw [hp.out]; rfl, by rw [hp.out]; rfl⟩
                      case measure => simp [intOf]; omega
                  · have q4 : (n == p) = false := by simp [hnp]
                    have q4' : ((n : Int) == (p : Int)) = false := by simp; omega
                    have hp := Lib.hid (htk2.out.trans (if_pos ⟨b, rfl, by unfold Po.bef; rw [HCN.out, HCP.out]; omega⟩))
                    clear hpn hnp
                    go_wp2_with fail
                    refine hF.out.mono ?_
                    rintro e w' ⟨rfl, rfl⟩
                    go_wp2_with fail
                    refine hR.out.mono ?_
                    rintro e w' ⟨rfl, rfl⟩
                    go_wp2_with fail
                    refine hG.out.mono ?_
                    rintro e w' ⟨rfl, rfl⟩
                    go_wp2_with fail
                    refine hG.out.mono ?_
                    rintro e w' ⟨rfl, rfl⟩
                    go_wp2
                    go_round
                    case rel => exact ⟨j + 1, by omega, by go_num, by rw [hp.out]; rfl, by rw [hp.out]; rfl⟩
                    case measure => simp [intOf]; omega
        · have hfin : l.take j = l := List.take_of_length_le (by omega)
          rw [hfin]
          clear hfin HCl HCo
          cases hr : Po.next l out l with
          | none =>
            have hfin2 := Lib.hid (show Po.favs l most.toNat = out from by
              have h5 := Po.favs_stay (l := l) (k := k) (by rw [HOUT.out]; exact hr) (most.toNat - k)
              rw [show k + (most.toNat - k) = most.toNat from by omega] at h5
              rw [h5, HOUT.out])
            clear hr
            simp only [Option.getD_none, Option.isSome_none]
            go_wp2
            go_ret
            exact ⟨A2, c2, by rw [hfin2.out, HLEN.out]; rfl, by rw [hfin2.out]; exact HRD.out, HB.out⟩
          | some b =>
            have hs := Lib.hid (show Po.favs l (k + 1) = out ++ [b] by rw [HSUC.out, hr]; rfl)
            clear hr
            rw [HLEN.out] at HO
            simp only [Option.getD_some, Option.isSome_some]
            go_wp2_with (at_builtin; refine wpList_app1 rfl _ _ rfl w.heap.size (.slice A2 k c2) _ rfl (HO.out.grow ((Below.refl _ _).alloc (Nat.le_refl _) _)) wr.heap.size b _ _ rfl (heap_alloc_new _ _) (by rw [HLEN.out]; omega) (by simp; omega) ?_)
            intro v' w1 hown1 hhop1
            have hR1 := Lib.hid hown1
            have HB1 := Lib.hid ((HO.out.grow ((Below.refl _ _).alloc (Nat.le_refl _) (.cells #[.int .i64 b] 3))).hop_below hhop1 (HB.out.alloc hzr _) (Nat.le_refl _) (Nat.le_refl _))
            have hlen1 := HLE1.out
            rw [hs.out] at hlen1
            have hl1 : (out ++ [b]).length = k + 1 := by rw [List.length_append, HLEN.out]; rfl
            rw [hl1] at hlen1
            clear hown1 hhop1
            go_wp2
            go_roundg (l.length - (k + 1))
            case measure => omega
            case rel => exact ⟨k + 1, by omega, by rw [hs.out]; exact hR1.out, by rw [hs.out]; exact hl1, hk1, HB1.out⟩
    · have q : decide ((k : Int) < most) = false := by simp; omega
      have hfin2 := Lib.hid (show Po.favs l most.toNat = Po.favs l k by rw [show most.toNat = k from by omega])
      clear hlt
      go_wp2
      go_ret
      exact ⟨A2, c2, by rw [hfin2.out, HLEN.out]; rfl, by rw [hfin2.out]; exact HRD.out, HB.out⟩
end Go.Proofs.Yteegpbdkalpeiaa
