/- The walks of layer 14: the reference's headers and lines. -/
import Derived.Test.YtbjhnfemlpbchaaWalksO
import Derived.Test.YtbjhnfemlpbchaaPlainG
namespace Go.Proofs.Ytbjhnfemlpbchaa
open Go.RowKit

theorem load_pr {w : World} {p : Nat} {m q : Value} (h0 : w.cell? ⟨p, 0, none⟩ = some m) (h1 : w.cell? ⟨p, 1, none⟩ = some q) : (loadVar 44 ⟨p, 0, none⟩).run Try.prog w = .ok (.agg #[m, q]) w := by
  go_simp
theorem results_pr {tmps : Array Value} {w : World} {p : Nat} {m q : Value} {e : Value} (h2 : tmps.getD 2 undef = .pointer (some ⟨p, 0, none⟩)) (h3 : tmps.getD 3 undef = e) (h0 : w.cell? ⟨p, 0, none⟩ = some m) (h1 : w.cell? ⟨p, 1, none⟩ = some q) :
    (results Try.f27 tmps).run Try.prog w = .ok (.tuple #[.agg #[m, q], e]) w := by
  rw [results_cell_tmp (p := 2) (u := 3) (ty := 44) rfl, h2, h3]
  simp [asAddr, load_pr h0 h1, Result.andThen]
theorem pr_put {X : World} {p : Nat} {t : TypeId} {m0 q0 : Value} (h : X.heap[p]? = some (.cells #[m0, q0] t (0, 0))) (m q : Value) :
    ((X.setCell ⟨p, 0, none⟩ m).setCell ⟨p, 1, none⟩ q).cell? ⟨p, 0, none⟩ = some m ∧ ((X.setCell ⟨p, 0, none⟩ m).setCell ⟨p, 1, none⟩ q).cell? ⟨p, 1, none⟩ = some q := by
  have h1 : (X.setCell ⟨p, 0, none⟩ m).heap[p]? = some (.cells #[m, q0] t (0, 0)) := by
    simp only [World.setCell, Array.getElem?_modify, if_true, h, Option.map_some]
    rfl
  have h2 : ((X.setCell ⟨p, 0, none⟩ m).setCell ⟨p, 1, none⟩ q).heap[p]? = some (.cells #[m, q] t (0, 0)) := by
    simp only [World.setCell, Array.getElem?_modify, if_true] at h1 ⊢
    rw [h1]
    rfl
  exact ⟨(blk_facts h2).1 0, (blk_facts h2).1 1⟩

set_option maxHeartbeats 8000000 in
set_option maxRecDepth 100000 in
theorem rheader_any (l : List UInt8) (w : World) (hl : l.length ≤ 1000000000) :
    Calls Try.prog 27 #[.string (bs l)] w fun e w' => e = .returned (.tuple #[pv ((Ma.header l).getD ([], [])), .bool (Ma.header l).isSome]) ∧ Below w.heap.size w w' := by
  have hzl := bs_size l
  go_enter Try.func27, Try.ntmps27
  go_wp2_with fail
  have q0 : (w.alloc (.cells #[.string ⟨#[]⟩, .string ⟨#[]⟩] 44)).heap[w.heap.size]? = some (.cells #[.string ⟨#[]⟩, .string ⟨#[]⟩] 44 (0, 0)) := heap_alloc_new _ _
  have k0 := (Below.refl w.heap.size w).alloc (Nat.le_refl _) (.cells #[.string ⟨#[]⟩, .string ⟨#[]⟩] 44)
  generalize w.alloc (.cells #[.string ⟨#[]⟩, .string ⟨#[]⟩] 44) = W at q0 k0 ⊢
  have hWq : w.heap.size < W.heap.size := (Array.getElem?_eq_some_iff.1 q0).1
  obtain ⟨b1, b2⟩ := blk_facts q0
  have c0 : W.cell? ⟨w.heap.size, 0, none⟩ = some (.string ⟨#[]⟩) := b1 0
  have c1 : W.cell? ⟨w.heap.size, 1, none⟩ = some (.string ⟨#[]⟩) := b1 1
  have c2 := b2 0
  have c3 := b2 1
  have K0 := Lib.hid k0
  have Q0 := Lib.hid q0
  clear b1 b2 k0 q0
  go_loopw [4] (fun u wr => ∃ i : Nat, i ≤ l.length ∧ u = .int .i64 i ∧ wr = W ∧ ∀ j, j < i → Lib.occAt l [58, 32] j = false) (fun u _ => l.length - (intOf u).toNat)
  case atStart => exact ⟨0, Nat.zero_le _, rfl, rfl, fun j hj => absurd hj (Nat.not_lt_zero j)⟩
  case round =>
    obtain ⟨i, hil, rfl, rfl, hno⟩ := hrel
    by_cases hi : i + 1 < l.length
    · obtain ⟨a, ha⟩ : ∃ a, l[i]? = some a := ⟨_, List.getElem?_eq_getElem (by omega)⟩
      obtain ⟨d, hd⟩ : ∃ d, l[i + 1]? = some d := ⟨_, List.getElem?_eq_getElem hi⟩
      have ic := fun x => bs_index l i a ha .i64 i rfl x
      have id' := fun x => bs_index l (i + 1) d hd .i64 ((i : Int) + 1) (by omega) x
      have p1 : decide ((i : Int) + 1 < (l.length : Int)) = true := decide_eq_true (by omega)
      have p2 : decide (i + 1 < l.length) = true := decide_eq_true hi
      by_cases hocc : Lib.occAt l [58, 32] i = true
      · obtain ⟨e1, e2⟩ := Ma.occ_iff.1 hocc
        rw [ha] at e1
        rw [hd] at e2
        cases e1
        cases e2
        have hfin := Lib.hid (Ma.header_hit hno hocc)
        have x1 := Lib.hid (show (bs l).extract 0 i = bs (l.take i) by rw [bs_extract, List.drop_zero, Nat.sub_zero])
        have x2 := Lib.hid (show (bs l).extract (i + 2) l.length = bs (l.drop (i + 2)) by rw [bs_extract, List.take_of_length_le (by rw [List.length_drop]; omega)])
        have y1 : ((i : Int) ≤ (l.length : Int)) := by omega
        have y2 : ((i : Int) + 2 ≤ (l.length : Int)) := by omega
        clear ha hd hocc hno
        go_wp2_with fail
        refine wp_region_ord 7 (by kernel_rfl) (by kernel_rfl) (fun _ _ d _ _ h => by cases d <;> exact h) ?_
        simp only [List.take_succ_cons, List.take_zero, List.drop_succ_cons, List.drop_zero]
        repeat (first | (refine wpLex_skip rfl ?_; simp only [Act.put, List.setIfInBounds_toArray, List.set_cons_zero, List.set_cons_succ]) | (refine wpLex_fix rfl ?_; intro F hF R hR hne K hK; go_big_quiet_op; first | (go_big_quiet_on; clear hne hR R hF F) | (apply Exists.intro; refine ⟨fun g => ?_, ?_⟩; (((fail))); go_big_quiet_on; clear hne hR R hF F)) | (apply wpLex_blk rfl; (focus (intro x hx; go_simp; exact ⟨rfl, rfl⟩)); intro B hB; simp only [Act.put, blkVal, List.setIfInBounds_toArray, List.set_cons_zero, List.set_cons_succ]))
        refine wpLex_nil ?_
        intro w1 hw1
        have hbw := hw1.below
        have hq1 := (hbw.block _ (show w.heap.size < wr.drew.heap.size from hWq)).trans Q0.out
        have HQ1 := Lib.hid hq1
        have HK1 := Lib.hid (Below.after' K0.out ((Below.refl wr.heap.size wr).drew.trans hbw) (by omega))
        obtain ⟨b3, b4⟩ := blk_facts hq1
        have r0 : w1.cell? ⟨w.heap.size, 0, none⟩ = some (.string ⟨#[]⟩) := b3 0
        have r1 : w1.cell? ⟨w.heap.size, 1, none⟩ = some (.string ⟨#[]⟩) := b3 1
        have r2 := b4 0
        have r3 := b4 1
        clear b3 b4 hq1
        go_wp2
        obtain ⟨z0, z1⟩ := pr_put HQ1.out (.string ((bs l).extract 0 i)) (.string ((bs l).extract (i + 2) l.length))
        exact bodyPost_ret (results_pr rfl rfl z0 z1) rfl ⟨by rw [hfin.out, x1.out, x2.out]; rfl, (HK1.out.setCell (p := ⟨w.heap.size, 0, none⟩) (Nat.le_refl _) _).setCell (p := ⟨w.heap.size, 1, none⟩) (Nat.le_refl _) _⟩
      · have hnx : ∀ j, j < i + 1 → Lib.occAt l [58, 32] j = false := fun j hj => by
          by_cases e : j = i
          · subst e; simpa using hocc
          · exact hno j (by omega)
        have HN := Lib.hid hnx
        by_cases h58 : a = 58
        · have h32 : d ≠ 32 := fun e => hocc (Ma.occ_iff.2 ⟨by rw [ha, h58], by rw [hd, e]⟩)
          have p3 : ((a.toNat : Int) == 58) = true := by rw [h58]; rfl
          have p4 : ((d.toNat : Int) == 32) = false := by
            rw [beq_eq_false_iff_ne]; intro h; exact h32 (UInt8.toNat_inj.1 (by show d.toNat = 32; omega))
          clear ha hd hocc hno hnx h58 h32
          go_wp2
          go_roundw
          case rel => exact ⟨i + 1, by omega, by go_num, trivial, HN.out⟩
          case measure => simp [intOf]; omega
        · have p3 : ((a.toNat : Int) == 58) = false := by
            rw [beq_eq_false_iff_ne]; intro h; exact h58 (UInt8.toNat_inj.1 (by show a.toNat = 58; omega))
          clear ha hd hocc hno hnx h58
          go_wp2
          go_roundw
          case rel => exact ⟨i + 1, by omega, by go_num, trivial, HN.out⟩
          case measure => simp [intOf]; omega
    · have hfin := Lib.hid (Ma.header_miss hno (by omega))
      have p1 : decide ((i : Int) + 1 < (l.length : Int)) = false := decide_eq_false (by omega)
      have p2 : decide (i + 1 < l.length) = false := decide_eq_false hi
      clear hno
      go_wp2
      obtain ⟨y0, y1⟩ := pr_put Q0.out (.string ⟨#[]⟩) (.string ⟨#[]⟩)
      exact bodyPost_ret (results_pr rfl rfl y0 y1) rfl ⟨by rw [hfin.out]; rfl, (K0.out.setCell (p := ⟨w.heap.size, 0, none⟩) (Nat.le_refl _) _).setCell (p := ⟨w.heap.size, 1, none⟩) (Nat.le_refl _) _⟩

theorem bat_at {w : World} {A : Option Addr} {c : Nat} {b : List UInt8} (h : BAt w A c b) {i : Nat} (hi : i < b.length) : ∃ g o x, A = some ⟨g, o, none⟩ ∧ g < w.heap.size ∧ b[i]? = some x ∧ w.cell? ⟨g, o + i, none⟩ = some (.int .u8 (x.toNat : Int)) := by
  obtain ⟨g, o, e, hg, hc⟩ := h.2 (by omega)
  exact ⟨g, o, _, e, hg, List.getElem?_eq_getElem hi, hc i _ (List.getElem?_eq_getElem hi)⟩

set_option maxHeartbeats 8000000 in
set_option maxRecDepth 100000 in
theorem rlines_any (A : Option Addr) (c : Nat) (b : List UInt8) (w : World) (hx : BAt w A c b) (hl : b.length ≤ 1000000) :
    Calls Try.prog 41 #[.slice A b.length c] w fun e w' => ∃ v, e = .returned v ∧ TRow w' w.heap.size v (Ma.rl b).1 ∧ Below w.heap.size w w' := by
  have HX := Lib.hid hx
  clear hx
  go_enter Try.func41, Try.ntmps41
  go_wp2_with fail
  go_loopw [3, 4, 9] (fun v u t wr => ∃ i : Nat, i ≤ b.length ∧ t = .int .i64 i ∧ TRow wr w.heap.size v (Ma.rl (b.take i)).1 ∧ u = .string (bs (Ma.rl (b.take i)).2) ∧ Below w.heap.size w wr) (fun _ _ t _ => b.length - (intOf t).toNat)
  case atStart => exact ⟨0, Nat.zero_le _, rfl, SRow.nil _ _ _, rfl, Below.refl _ _⟩
  case round =>
    obtain ⟨i, hil, rfl, hO, rfl, hB⟩ := hrel
    have HO := Lib.hid hO
    have HB := Lib.hid hB
    have hsz := hB.size
    by_cases hi : i < b.length
    · obtain ⟨g, o, ch, rfl, hg, hch, c1⟩ := bat_at (HX.out.grow hB) hi
      have hst := Lib.hid (show Ma.rl (b.take (i + 1)) = Ma.rlStep (Ma.rl (b.take i)) ch from Ma.fold_snoc hch _)
      obtain ⟨hs1, hs2⟩ := Ma.rl_small b i
      generalize Ma.rl (b.take i) = st at hO HO hst hs1 hs2 ⊢
      obtain ⟨out, s⟩ := st
      simp only at hO HO hs1 hs2 ⊢
      have hzs := bs_size s
      obtain ⟨A3, c3, rfl, _⟩ := hO.reads
      clear hO hB hch
      by_cases h10 : ch = 10
      · have p1 : ((ch.toNat : Int) != 10) = false := by rw [h10]; rfl
        have hst2 := Lib.hid (show Ma.rl (b.take (i + 1)) = (out ++ [Ma.cr s], []) by rw [hst.out]; exact if_pos h10)
        clear h10
        by_cases hs0 : s = []
        · subst hs0
          have hst3 := Lib.hid (show Ma.rl (b.take (i + 1)) = (out ++ [[]], []) from hst2.out)
          have p2 : (bs []).toList = [] := bs_list []
          go_wp2_with (at_builtin; refine wpList_appS rfl _ _ rfl w.heap.size (.slice A3 out.length c3) _ rfl (SRow.grow HO.out ((Below.refl _ _).alloc (Nat.le_refl _) _)) wr.heap.size [] 9 (0, 0) rfl (heap_alloc_new _ _) (by omega) (by simp; omega) ?_)
          intro v' w1 hown1 hhop1
          have hR1 := Lib.hid hown1
          have HB2 := Lib.hid ((HB.out.alloc hsz (.cells #[.string (bs [])] 9)).trans (hhop1.below (by simp; omega) (fun k e => (World.ownsRow.lt HO.out k e).1)))
          clear hown1 hhop1
          go_wp2
          go_roundw
          case rel => exact ⟨i + 1, by omega, by go_num, by rw [hst3.out]; exact hR1.out, by rw [hst3.out]; rfl, HB2.out⟩
          case measure => simp [intOf]; omega
        · obtain ⟨m, hm⟩ : ∃ m, s.length = m + 1 := ⟨s.length - 1, by have := List.length_pos_iff.2 hs0; omega⟩
          obtain ⟨d, hd⟩ : ∃ d, s[m]? = some d := ⟨_, List.getElem?_eq_getElem (by omega)⟩
          have hgl : s.getLast? = some d := by rw [List.getLast?_eq_getElem?, hm]; exact hd
          have ic := fun x => bs_index s m d hd .i64 m rfl x
          have p2 : (bs s).toList.isEmpty = false := by rw [bs_list]; cases s with | nil => exact absurd rfl hs0 | cons _ _ => rfl
          have ek : ((m + 1 : Nat) : Int) - 1 = (m : Int) := by omega
          have ek2 : ((m : Int) + 1) - 1 = (m : Int) := by omega
          rw [hm] at hzs
          by_cases h13 : d = 13
          · have p3 : ((d.toNat : Int) == 13) = true := by rw [h13]; rfl
            have hx := Lib.hid (show (bs s).extract 0 m = bs (Ma.cr s) by
              unfold Ma.cr
              rw [if_pos (by rw [hgl, h13]), bs_extract, List.drop_zero, List.dropLast_eq_take, hm]; rfl)
            have y1 : ((m : Int) ≤ ((m + 1 : Nat) : Int)) := by omega
            clear hs0 hd hgl h13
            go_wp2_with (at_builtin; refine wpList_appS rfl _ _ rfl w.heap.size (.slice A3 out.length c3) _ rfl (SRow.grow HO.out ((Below.refl _ _).alloc (Nat.le_refl _) _)) wr.heap.size (Ma.cr s) 9 (0, 0) rfl (by rw [← hx.out]; exact heap_alloc_new _ _) (by omega) (by simp; omega) ?_)
            intro v' w1 hown1 hhop1
            have hR1 := Lib.hid hown1
            have HB2 := Lib.hid ((HB.out.alloc hsz _).trans (hhop1.below (by simp; omega) (fun k e => (World.ownsRow.lt HO.out k e).1)))
            clear hown1 hhop1
            go_wp2
            go_roundw
            case rel => exact ⟨i + 1, by omega, by go_num, by rw [hst2.out]; exact hR1.out, by rw [hst2.out]; rfl, HB2.out⟩
            case measure => simp [intOf]; omega
          · have p3 : ((d.toNat : Int) == 13) = false := by
              rw [beq_eq_false_iff_ne]; intro h; exact h13 (UInt8.toNat_inj.1 (by show d.toNat = 13; omega))
            have hx := Lib.hid (show s = Ma.cr s by
              unfold Ma.cr
              rw [if_neg (by rw [hgl]; simpa using h13)])
            clear hs0 hd hgl h13
            go_wp2_with (at_builtin; refine wpList_appS rfl _ _ rfl w.heap.size (.slice A3 out.length c3) _ rfl (SRow.grow HO.out ((Below.refl _ _).alloc (Nat.le_refl _) _)) wr.heap.size s 9 (0, 0) rfl (heap_alloc_new _ _) (by omega) (by simp; omega) ?_)
            intro v' w1 hown1 hhop1
            have hR1 := Lib.hid hown1
            have HB2 := Lib.hid ((HB.out.alloc hsz _).trans (hhop1.below (by simp; omega) (fun k e => (World.ownsRow.lt HO.out k e).1)))
            clear hown1 hhop1
            go_wp2
            go_roundw
            case rel => exact ⟨i + 1, by omega, by go_num, by rw [hst2.out, ← hx.out]; exact hR1.out, by rw [hst2.out]; rfl, HB2.out⟩
            case measure => simp [intOf]; omega
      · have p1 : ((ch.toNat : Int) != 10) = true := by
          rw [bne_iff_ne]; intro h; exact h10 (UInt8.toNat_inj.1 (by show ch.toNat = 10; omega))
        have hst2 := Lib.hid (show Ma.rl (b.take (i + 1)) = (out, s ++ [ch]) by rw [hst.out]; exact if_neg h10)
        have hcv := one_sign wr ch (ch.toNat : Int) rfl
        have hz2 : (bs [ch]).size = 1 := rfl
        have hcat := Lib.hid (bs_append s [ch])
        clear h10
        go_wp2
        go_roundw
        case rel => exact ⟨i + 1, by omega, by go_num, by rw [hst2.out]; exact SRow.grow HO.out ((Below.refl _ _).alloc (Nat.le_refl _) _), by rw [hst2.out, hcat.out], HB.out.alloc hsz _⟩
        case measure => simp [intOf]; omega
    · rw [show b.take i = b from List.take_of_length_le (by omega)] at hO
      have HO2 := Lib.hid hO
      clear hO hB
      obtain ⟨A3, c3, rfl, _⟩ := HO2.out.reads
      go_wp2
      go_ret
      exact ⟨_, rfl, HO2.out, HB.out⟩
end Go.Proofs.Ytbjhnfemlpbchaa
