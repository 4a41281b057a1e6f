/- The walk of layer 14: the law on folds, names and headers. -/
import Derived.Test.YtbjhnfemlpbchaaWalksQ
import Derived.Deep.QuietTactic
import Derived.BigQuiet
namespace Go.Proofs.Ytbjhnfemlpbchaa
open Go.RowKit

theorem find_hit {f : Pr → Bool} {xs : List Pr} {i : Nat} {q : Pr} (h0 : (xs.take i).find? f = none) (hq : xs[i]? = some q) (hp : f q = true) : xs.find? f = some q := by
  obtain ⟨h1, rfl⟩ := List.getElem?_eq_some_iff.1 hq
  conv => lhs; rw [← List.take_append_drop i xs, List.drop_eq_getElem_cons h1]
  rw [List.find?_append, h0, List.find?_cons, hp]
  rfl
theorem find_miss {f : Pr → Bool} {xs : List Pr} {i : Nat} {q : Pr} (h0 : (xs.take i).find? f = none) (hq : xs[i]? = some q) (hp : f q = false) : (xs.take (i + 1)).find? f = none := by
  obtain ⟨h1, rfl⟩ := List.getElem?_eq_some_iff.1 hq
  rw [List.take_succ_eq_append_getElem h1, List.find?_append, h0, List.find?_cons, hp]
  rfl
theorem Ma.foldT_le : ∀ (k : Nat) (l : List UInt8), ∀ x ∈ Ma.foldT k l, x.length ≤ 72
  | 0, _, x, h => by simp [Ma.foldT] at h
  | k + 1, l, x, h => by
    unfold Ma.foldT at h
    split at h
    · cases h
    · rcases List.mem_cons.1 h with rfl | h
      · simp only [List.length_cons, List.length_take]; omega
      · exact Ma.foldT_le k _ x h
theorem Ma.fold_le (l : List UInt8) : ∀ x ∈ Ma.fold l, x.length ≤ 72 := by
  intro x h
  unfold Ma.fold at h
  split at h
  · rw [List.mem_singleton] at h; subst h; assumption
  · rcases List.mem_cons.1 h with rfl | h
    · simp only [List.length_take]; omega
    · exact Ma.foldT_le _ _ x h

theorem Ma.foldT_len : ∀ (k : Nat) (l : List UInt8), (Ma.foldT k l).length ≤ k
  | 0, _ => Nat.le_refl _
  | k + 1, l => by
    unfold Ma.foldT
    split
    · exact Nat.zero_le _
    · have := Ma.foldT_len k (l.drop 71)
      simp only [List.length_cons]; omega
theorem Ma.fold_len (l : List UInt8) : (Ma.fold l).length ≤ l.length + 1 := by
  unfold Ma.fold
  split
  · simp
  · have := Ma.foldT_len l.length (l.drop 72)
    simp only [List.length_cons]; omega

set_option maxHeartbeats 8000000 in
set_option maxRecDepth 100000 in
theorem folds_any (s : List UInt8) (A : Option Addr) (c : Nat) (l : List Pr) (name : List UInt8) (w : World) (hx : Prs w A c l) (hm : MaxP w) (hl : l.length ≤ 140737488355328) (hlp : ∀ p ∈ l, p.1.length ≤ 140737488355328) :
    Calls Try.prog 6 #[.string (bs s), .slice A l.length c, .string (bs name)] w fun e w' => e = .returned (.bool true) ∧ Below w.heap.size w w' := by
  have HX := Lib.hid hx
  have HM := Lib.hid hm
  have HL := Lib.hid hlp
  have hzs := bs_size s
  have hzn := bs_size name
  clear hx hm hlp
  go_enter Try.func6, Try.ntmps6
  go_wp2_with fail
  refine (fixed_any w HM.out).mono ?_
  rintro e w1 ⟨rfl, hb⟩
  have J1 := Lib.hid hb
  clear hb
  by_cases g1 : 1000 < s.length
  · have u1 : decide (1000 < s.length) = true := decide_eq_true g1
    have u2 : decide ((1000 : Int) < (s.length : Int)) = true := decide_eq_true (by omega)
    go_wp2
    go_ret
    exact ⟨rfl, J1.out⟩
  have u1 : decide (1000 < s.length) = false := decide_eq_false g1
  have u2 : decide ((1000 : Int) < (s.length : Int)) = false := decide_eq_false (by omega)
  by_cases g2 : 20 < l.length
  · have u3 : decide (20 < l.length) = true := decide_eq_true g2
    have u4 : decide ((20 : Int) < (l.length : Int)) = true := decide_eq_true (by omega)
    go_wp2
    go_ret
    exact ⟨rfl, J1.out⟩
  have u3 : decide (20 < l.length) = false := decide_eq_false g2
  have u4 : decide ((20 : Int) < (l.length : Int)) = false := decide_eq_false (by omega)
  by_cases g3 : 200 < name.length
  · have u5 : decide (200 < name.length) = true := decide_eq_true g3
    have u6 : decide ((200 : Int) < (name.length : Int)) = true := decide_eq_true (by omega)
    go_wp2
    go_ret
    exact ⟨rfl, J1.out⟩
  have u5 : decide (200 < name.length) = false := decide_eq_false g3
  have u6 : decide ((200 : Int) < (name.length : Int)) = false := decide_eq_false (by omega)
  go_wp2_with fail
  refine (fold_any s w1 (by omega)).mono ?_
  rintro e w2 ⟨va, rfl, hra, hb⟩
  obtain ⟨Aa, ca, rfl, hTa⟩ := hra.reads
  have HTa := Lib.hid hTa
  have J2 := Lib.hid (Below.after' J1.out hb (Nat.le_refl _))
  clear hb hra hTa
  go_wp2_with fail
  refine (rfold_any s w2 (by omega)).mono ?_
  rintro e w3 ⟨vb, rfl, hrb, hb⟩
  obtain ⟨Ab, cb, rfl, hTb⟩ := hrb.reads
  have HTa3 := Lib.hid (HTa.out.grow hb)
  have HTb := Lib.hid hTb
  have J3 := Lib.hid (Below.after' J2.out hb (Nat.le_refl _))
  have HF := Lib.hid (Ma.fold_le s)
  have hfs := Ma.fold_len s
  have HN1 := Lib.hid (fun w => name_any s w (by omega))
  have HN2 := Lib.hid (fun w => rname_any s w (by omega))
  generalize Ma.name s = nm at HN1 HN2
  generalize Ma.fold s = fs at *
  clear hb hrb hTb HTa
  go_wp2_with fail
  refine (HN1.out w3).mono ?_
  rintro e w4 ⟨rfl, hb⟩
  have HTa4 := Lib.hid (HTa3.out.grow hb)
  have HTb4 := Lib.hid (HTb.out.grow hb)
  have J4 := Lib.hid (Below.after' J3.out hb (Nat.le_refl _))
  clear hb HTa3 HTb
  go_wp2_with fail
  refine (HN2.out w4).mono ?_
  rintro e w' ⟨rfl, rfl⟩
  go_wp2_with fail
  go_loopw [47] (fun u wr => ∃ i : Nat, i ≤ fs.length ∧ u = .int .i64 i ∧ Below w4.heap.size w4 wr) (fun u _ => fs.length - (intOf u).toNat)
  case atStart => exact ⟨0, Nat.zero_le _, rfl, Below.refl _ _⟩
  case round =>
    obtain ⟨i, hil, rfl, hB⟩ := hrel
    have HB := Lib.hid hB
    by_cases hi : i < fs.length
    · obtain ⟨ga, oa, x, rfl, hga, hxa, c1⟩ := (HTa4.out.grow hB).at_ hi
      obtain ⟨gb, ob, y, rfl, hgb, hyb, c2⟩ := (HTb4.out.grow hB).at_ hi
      obtain rfl : x = y := by rw [hxa] at hyb; injection hyb
      have hx72 := HF.out x (List.mem_of_getElem? hxa)
      have hzx := bs_size x
      have p1 : ((bs x).toList != (bs x).toList) = false := by simp
      have p2 : decide (72 < x.length) = false := decide_eq_false (by omega)
      have p3 : decide ((72 : Int) < (x.length : Int)) = false := decide_eq_false (by omega)
      have p4 : decide ((i : Int) < (fs.length : Int)) = true := decide_eq_true (by omega)
      clear hB hxa hyb
      go_wp2_with fail
      go_quiet (fail)
      go_wp2
      go_roundw
      case rel => exact ⟨i + 1, by omega, by go_num, below_drewN HB.out _⟩
      case measure => simp [intOf]; omega
    · have J5 := Lib.hid (Below.after' J4.out hB (Nat.le_refl _))
      have hG := Lib.hid (get_any A c l name wr (HX.out.grow J5.out) (by omega) HL.out (by omega))
      have hGe : Ma.get l name = (l.find? (Ma.is name)).map (·.2) := rfl
      generalize Ma.get l name = gr at hG hGe
      have hGE := Lib.hid hGe
      clear hB hGe
      go_wp2_with fail
      refine hG.out.mono ?_
      rintro e w6 ⟨rfl, hb⟩
      have J6 := Lib.hid (Below.after' J5.out hb (Nat.le_refl _))
      clear hb
      go_wp2_with fail
      go_loopw [76] (fun u wq => ∃ k : Nat, k ≤ l.length ∧ u = .int .i64 k ∧ Below w.heap.size w wq ∧ (l.take k).find? (Ma.is name) = none) (fun u _ => l.length - (intOf u).toNat)
      case atStart => exact ⟨0, Nat.zero_le _, rfl, J6.out, rfl⟩
      case round =>
        rename World => wq
        obtain ⟨k, hkl, rfl, hB, hno⟩ := hrel
        have HB := Lib.hid hB
        have HNO := Lib.hid hno
        by_cases hk : k < l.length
        · obtain ⟨g, o, p, rfl, hg, hp, c1, c2⟩ := (HX.out.grow hB).at_ hk
          have hzp := bs_size p.1
          have hHP := Lib.hid hp
          clear hB hno hp
          by_cases hbig : 200 < p.1.length
          · have p5 : decide (200 < p.1.length) = true := decide_eq_true hbig
            have p6 : decide ((200 : Int) < (p.1.length : Int)) = true := decide_eq_true (by omega)
            have hpl := HL.out p (List.mem_of_getElem? hHP.out)
            go_wp2
            go_ret
            exact ⟨rfl, HB.out.alloc HB.out.size _⟩
          · have p5 : decide (200 < p.1.length) = false := decide_eq_false hbig
            have p6 : decide ((200 : Int) < (p.1.length : Int)) = false := decide_eq_false (by omega)
            have HS1 := Lib.hid (fun w => rsmall_any p.1 w (by omega))
            have HS2 := Lib.hid (fun w => rsmall_any name w (by omega))
            have hisd := Lib.hid (show Ma.is name p = (Ma.small p.1 == Ma.small name) from rfl)
            generalize Ma.small p.1 = s1 at HS1 hisd
            generalize Ma.small name = s2 at HS2 hisd
            go_wp2_with fail
            have q2 : (wq.alloc (.cells #[.string (bs p.1), .string (bs p.2)] 44)).heap[wq.heap.size]? = some (.cells #[.string (bs p.1), .string (bs p.2)] 44 (0, 0)) := heap_alloc_new _ _
            have k2 := (Below.refl wq.heap.size wq).alloc (Nat.le_refl _) (.cells #[.string (bs p.1), .string (bs p.2)] 44)
            generalize wq.alloc (.cells #[.string (bs p.1), .string (bs p.2)] 44) = W2 at q2 k2 ⊢
            have zq := (Array.getElem?_eq_some_iff.1 q2).1
            refine (HS1.out W2).mono ?_
            rintro e w7 ⟨rfl, hb7⟩
            have k7 := Below.after' k2 hb7 (Nat.le_refl _)
            have q7 := (hb7.block _ zq).trans q2
            have zq7 := (Array.getElem?_eq_some_iff.1 q7).1
            have K7 := Lib.hid k7
            have Q7 := Lib.hid q7
            clear hb7 k7 q7 q2 k2 c1 c2
            go_wp2_with fail
            refine (HS2.out w7).mono ?_
            rintro e w8 ⟨rfl, hb8⟩
            have K8 := Lib.hid (Below.after' HB.out (Below.after' K7.out hb8 (Nat.le_refl _)) (Nat.le_refl _))
            have q8 := (hb8.block _ zq7).trans Q7.out
            have d2 : w8.cell? ⟨wq.heap.size, 1, none⟩ = some (.string (bs p.2)) := (blk_facts q8).1 1
            clear hb8 q8
            by_cases he : s1 = s2
            · have r1 : ((bs s1).toList == (bs s2).toList) = true := by rw [bs_beq]; simp [he]
              have hg : gr = some p.2 := by
                rw [hGE.out, find_hit HNO.out hHP.out (by rw [hisd.out, he]; simp)]; rfl
              subst hg
              have r2 : ((bs p.2).toList == (bs p.2).toList) = true := by simp
              clear he
              go_wp2
              go_ret
              exact ⟨rfl, K8.out⟩
            · have r1 : ((bs s1).toList == (bs s2).toList) = false := by rw [bs_beq]; simp [he]
              have hnx := Lib.hid (find_miss HNO.out hHP.out (show Ma.is name p = false by rw [hisd.out]; simp [he]))
              clear he
              go_wp2
              go_roundw
              case rel => exact ⟨k + 1, by omega, by go_num, K8.out, hnx.out⟩
              case measure => simp [intOf]; omega
        · rw [show l.take k = l from List.take_of_length_le (by omega)] at hno
          have hg : gr = none := by rw [hGE.out, hno]; rfl
          subst hg
          have r2 : (bs []).toList = [] := bs_list []
          clear hno hB
          go_wp2
          go_ret
          exact ⟨rfl, HB.out⟩
end Go.Proofs.Ytbjhnfemlpbchaa
