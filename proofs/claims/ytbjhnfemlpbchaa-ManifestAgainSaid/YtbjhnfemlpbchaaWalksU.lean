/- The walk of layer 14: the reference's sections, whole. -/
import Derived.Test.YtbjhnfemlpbchaaWalksT
namespace Go.Proofs.Ytbjhnfemlpbchaa
open Go.RowKit

theorem ROuts.form {w : World} {base : Nat} {v : Value} {out : List (List (List UInt8))} {op : Bool} (h : ROuts w base v out op) (h0 : out ≠ []) : ∃ g cap, v = .slice (some ⟨g, 0, none⟩) out.length cap := by
  obtain ⟨vals, k1, _⟩ := h
  rcases k1.2 with ⟨_, h2⟩ | ⟨g, cap, cur, h1, _⟩
  · exact absurd (List.eq_nil_of_length_eq_zero h2) h0
  · exact ⟨g, cap, h1⟩
theorem Outs.lower {w : World} {base b' : Nat} {v : Value} {out : List (List (List UInt8))} {no : Option Nat} (h : Outs w base v out no) (hb : b' ≤ base) : Outs w b' v out no := by
  have low : ∀ {e : TypeId} {sz : Nat} {v : Value} {n : Nat} {xs : List Value}, w.ownsRow base e sz v n xs → w.ownsRow b' e sz v n xs := by
    rintro e sz v n xs ⟨h1, h2⟩
    refine ⟨h1, ?_⟩
    rcases h2 with h2 | ⟨g, cap, cur, h2, h3, h4⟩
    · exact .inl h2
    · exact .inr ⟨g, cap, cur, h2, Nat.le_trans hb h3, h4⟩
  obtain ⟨vals, k1, k2, k3⟩ := h
  exact ⟨vals, low k1, k2, fun j u x hu hx => ⟨low (k3 j u x hu hx).1, (k3 j u x hu hx).2⟩⟩
theorem close_err {s : Ma.St} (h : s.1 ≠ 0) : Ma.close s = [] := if_pos h

set_option maxHeartbeats 8000000 in
set_option maxRecDepth 100000 in
theorem sections_any (A : Option Addr) (c : Nat) (b : List UInt8) (w : World) (hx : BAt w A c b) (hl : b.length ≤ 1000000) :
    Calls Try.prog 26 #[.slice A b.length c] w fun e w' => ∃ v, e = .returned (.tuple #[v, .int .i64 ((Ma.runp (Ma.rl b).1).1 : Nat)]) ∧ Outs w' w.heap.size v (Ma.close (Ma.runp (Ma.rl b).1)) none ∧ Below w.heap.size w w' := by
  obtain ⟨ls, hls⟩ : ∃ ls, ls = (Ma.rl b).1 := ⟨_, rfl⟩
  have HR0 := Lib.hid (rlines_any A c b w hx hl)
  obtain ⟨hB1, hB2⟩ := Ma.rl_bounds b
  rw [← hls] at HR0 hB1 hB2 ⊢
  clear hx hls
  go_enter Try.func26, Try.ntmps26
  go_wp2_with fail
  refine HR0.out.mono ?_
  rintro e wl ⟨vl, rfl, hT, hb1⟩
  obtain ⟨Al, cl, rfl, hTx⟩ := hT.reads
  have HTx := Lib.hid hTx
  have J1 := Lib.hid hb1
  clear hT hTx hb1 HR0
  go_wp2_with fail
  go_loopw [4, 5, 12] (fun v u t wr => ∃ i : Nat, i ≤ ls.length ∧ t = .int .i64 i ∧ (Ma.runp (ls.take i)).1 = 0 ∧ u = .bool (!(Ma.runp (ls.take i)).2.2.isEmpty) ∧ ROuts wr wl.heap.size v (Ma.close (Ma.runp (ls.take i))) (!(Ma.runp (ls.take i)).2.2.isEmpty) ∧ Below wl.heap.size wl wr) (fun _ _ t _ => ls.length - (intOf t).toNat)
  case atStart => exact ⟨0, Nat.zero_le _, rfl, rfl, rfl, ROuts.nil _ _, Below.refl _ _⟩
  case round =>
    obtain ⟨i, hil, rfl, h0, rfl, hRO, hBk⟩ := hrel
    have HBk := Lib.hid hBk
    have HB := Lib.hid (Below.after' J1.out hBk (Nat.le_refl _))
    have hsz := hBk.size
    by_cases hi : i < ls.length
    · obtain ⟨g0, o0, l, rfl, hg0, hln, c1⟩ := (HTx.out.grow hBk).at_ hi
      have hst := Lib.hid (show Ma.runp (ls.take (i + 1)) = Ma.put (Ma.runp (ls.take i)) l from (Ma.fold_snoc hln _).trans (if_neg (by show ¬ (Ma.runp (ls.take i)).1 ≠ 0; omega)))
      have hbad := Lib.hid (show (Ma.runp (ls.take (i + 1))).1 ≠ 0 → Ma.runp ls = Ma.runp (ls.take (i + 1)) from fun h => Ma.fold_pre Ma.runS_err h)
      have hsm := Ma.smallp (ls.take i)
      have hll := Ma.mem_flat (List.mem_of_getElem? hln)
      have htf := Ma.take_flat ls i
      rw [List.length_take] at hsm
      generalize Ma.runp (ls.take i) = st at h0 hRO hst hsm ⊢
      obtain ⟨e0, out, now⟩ := st
      simp only at h0
      subst h0
      obtain ⟨hs1, hs2, hs3, _⟩ := hsm
      simp only at hs1 hs2 hs3 hRO ⊢
      have hzl := bs_size l
      clear hBk hln
      by_cases h72 : 72 < l.length
      · have p1 : decide (72 < l.length) = true := decide_eq_true h72
        have p2 : decide ((72 : Int) < (l.length : Int)) = true := decide_eq_true (by omega)
        have hfin := Lib.hid (show Ma.runp ls = (3, [], []) by
          have e1 : Ma.runp (ls.take (i + 1)) = (3, [], []) := by rw [hst.out]; exact if_pos h72
          rw [hbad.out (by rw [e1]; decide), e1])
        obtain ⟨Av, cv, rfl, _⟩ := hRO.outs.reads
        clear h72 hRO
        go_wp2
        go_ret2
        exact ⟨.slice none 0 0, by rw [hfin.out]; rfl, by rw [hfin.out]; exact Outs.nil _ _ _, HB.out⟩
      have p1 : decide (72 < l.length) = false := decide_eq_false h72
      have p2 : decide ((72 : Int) < (l.length : Int)) = false := decide_eq_false (by omega)
      by_cases hl0 : l = []
      · subst hl0
        have p3 : (bs []).toList = [] := bs_list []
        have hput : Ma.put (0, out, now) [] = if now = [] then (0, out, now) else (0, out ++ [now], []) := by
          unfold Ma.put; rw [if_neg (by simp), if_pos rfl]
        have hcl := Lib.hid (show (Ma.runp (ls.take (i + 1))).1 = 0 ∧ (Ma.runp (ls.take (i + 1))).2.2 = [] ∧ Ma.close (Ma.runp (ls.take (i + 1))) = Ma.close (0, out, now) by
          rw [hst.out, hput]
          by_cases hn : now = []
          · rw [if_pos hn]; exact ⟨rfl, hn, rfl⟩
          · rw [if_neg hn]
            refine ⟨rfl, rfl, ?_⟩
            unfold Ma.close
            rw [if_neg (by simp), if_pos rfl, if_neg (by simp), if_neg hn])
        have HR := Lib.hid hRO.closed
        obtain ⟨Av, cv, rfl, _⟩ := hRO.outs.reads
        clear hRO hput
        go_wp2
        go_roundw
        case rel => exact ⟨i + 1, by omega, by go_num, hcl.out.1, by rw [hcl.out.2.1]; rfl, by rw [hcl.out.2.1, hcl.out.2.2]; exact HR.out, HBk.out⟩
        case measure => simp [intOf]; omega
      obtain ⟨ch, hch⟩ : ∃ ch, l[0]? = some ch := ⟨_, List.getElem?_eq_getElem (List.length_pos_iff.2 hl0)⟩
      have ic := fun y => bs_index l 0 ch hch .i64 0 rfl y
      have hhd : l.head? = some ch := by rw [List.head?_eq_getElem?]; exact hch
      have p3 : (bs l).toList.isEmpty = false := by rw [bs_list]; cases l with | nil => exact absurd rfl hl0 | cons _ _ => rfl
      by_cases h32 : ch = 32
      · have p4 : ((ch.toNat : Int) == 32) = true := by rw [h32]; rfl
        by_cases hn : now = []
        · have p5 : (!now.isEmpty) = false := by rw [hn]; rfl
          have hfin := Lib.hid (show Ma.runp ls = (2, [], []) by
            have e1 : Ma.runp (ls.take (i + 1)) = (2, [], []) := by
              rw [hst.out]; unfold Ma.put
              rw [if_neg h72, if_neg hl0, if_neg (by rw [hhd, h32]; simp), if_pos hn]
            rw [hbad.out (by rw [e1]; decide), e1])
          obtain ⟨Av, cv, rfl, _⟩ := hRO.outs.reads
          subst hn
          clear hRO hch hhd h32 hl0 h72 p5
          go_wp2
          go_ret2
          exact ⟨.slice none 0 0, by rw [hfin.out]; rfl, by rw [hfin.out]; exact Outs.nil _ _ _, HB.out⟩
        · obtain ⟨n, hnl⟩ : ∃ n, now.length = n + 1 := ⟨now.length - 1, by have := List.length_pos_iff.2 hn; omega⟩
          have hcl0 : Ma.close (0, out, now) = out ++ [now] := by unfold Ma.close; rw [if_neg (by simp), if_neg hn]
          have p5 : (!now.isEmpty) = true := by cases now with | nil => exact absurd rfl hn | cons _ _ => rfl
          rw [hcl0, p5] at hRO
          obtain ⟨g, cap, rfl⟩ := hRO.form (by simp)
          rw [show (out ++ [now]).length = out.length + 1 by simp] at hRO ⊢
          obtain ⟨A1, k1, d1, hTn, hgz, _⟩ := hRO.last
          rcases hTn.cases with ⟨_, h2⟩ | ⟨gl, cap1, h1, hbl, hglz, hcap, hcc⟩
          · exact absurd h2 hn
          injection h1 with h1 _ h3
          subst h1 h3
          obtain ⟨la, hla⟩ : ∃ la, now[n]? = some la := ⟨_, List.getElem?_eq_getElem (by omega)⟩
          have d2 := hcc n la hla
          have d3 : wr.frozen? ⟨gl, n, none⟩ = false := by
            obtain ⟨_, cur, hc⟩ := hTn.cells (g := gl) rfl
            exact (blk_facts hc).2 n
          have hzla := bs_size la
          have hlal : la.length ≤ 3000000 := by
            have := hs3 la (List.mem_of_getElem? hla)
            omega
          have hgl : now.getLastD [] = la := by
            rw [List.getLastD_eq_getLast?, List.getLast?_eq_getElem?, hnl, Nat.add_sub_cancel, hla]; rfl
          have hput := Lib.hid (show Ma.runp (ls.take (i + 1)) = (0, out, now.set n (la ++ l.tail)) by
            rw [hst.out]; unfold Ma.put
            rw [if_neg h72, if_neg hl0, if_neg (by rw [hhd, h32]; simp), if_neg hn]
            simp only [hgl]
            rw [← set_last now _ hn, hnl, Nat.add_sub_cancel])
          have hne2 : now.set n (la ++ l.tail) ≠ [] := fun e => by have := congrArg List.length e; simp at this; rw [this] at hnl; simp at hnl
          have hcl1 := Lib.hid (show Ma.close (0, out, now.set n (la ++ l.tail)) = out ++ [now.set n (la ++ l.tail)] by unfold Ma.close; rw [if_neg (by simp), if_neg hne2])
          have hem := Lib.hid (show (!(now.set n (la ++ l.tail)).isEmpty) = true by cases h : now.set n (la ++ l.tail) with | nil => exact absurd h hne2 | cons _ _ => rfl)
          have hx : (bs l).extract 1 l.length = bs l.tail := by
            rw [bs_extract, List.take_of_length_le (by rw [List.length_drop]; exact Nat.le_refl _), List.drop_one]
          have HXc := Lib.hid (show bs la ++ (bs l).extract 1 l.length = bs (la ++ l.tail) by rw [hx, bs_append])
          have hzt : ((bs l).extract 1 l.length).size = l.length - 1 := by rw [hx, bs_size, List.length_tail]
          have hl1 : 1 ≤ l.length := List.length_pos_iff.2 hl0
          have hl2 : (1 : Int) ≤ (l.length : Int) := by omega
          have HPut := Lib.hid (fun w1 hb1 => hRO.put (w1 := w1) (y := la ++ l.tail) d1 hb1 (show n < now.length by omega))
          have ek : ((out.length + 1 : Nat) : Int) - 1 = (out.length : Int) := by omega
          have ek2 : ((out.length : Int) + 1) - 1 = (out.length : Int) := by omega
          have em : ((n + 1 : Nat) : Int) - 1 = (n : Int) := by omega
          have em2 : ((n : Int) + 1) - 1 = (n : Int) := by omega
          rw [hnl] at d1
          have zgl : gl < wr.drew.heap.size := hglz
          clear hRO hch hhd h32 hl0 h72 hTn hcc hla hx hcl0 hne2 hgl
          rw [p5]
          go_wp2_with fail
          refine wp_region_ord 14 (by kernel_rfl) (by kernel_rfl) (fun _ _ d _ _ h => by cases d <;> exact h) ?_
          simp only [List.take_succ_cons, List.take_zero, List.drop_succ_cons, List.drop_zero]
          repeat (first | (refine wpLex_skip rfl ?_; simp only [Act.put, List.setIfInBounds_toArray, List.set_cons_zero, List.set_cons_succ]) | (refine wpLex_fix rfl ?_; intro F hF R hR hne K hK; go_big_quiet_op; first | (go_big_quiet_on; clear hne hR R hF F) | (apply Exists.intro; refine ⟨fun g => ?_, ?_⟩; (((first | (rw [GrE.cell g _ _ zgl]; go_simp; first | exact ⟨rfl, rfl⟩ | rfl) | (go_simp; (repeat (simp only [GrE.cell g _ _ zgl]; go_simp)); first | exact ⟨rfl, rfl⟩ | rfl)))); go_big_quiet_on; clear hne hR R hF F)) | (apply wpLex_blk rfl; (focus (intro x hx; go_simp; exact ⟨rfl, rfl⟩)); intro B hB; simp only [Act.put, blkVal, List.setIfInBounds_toArray, List.set_cons_zero, List.set_cons_succ]))
          refine wpLex_nil ?_
          intro w1 hw1
          have hb1 := hw1.below
          have hbx : Below wr.heap.size wr w1 := Below.after' (Below.refl wr.heap.size wr).drew hb1 (Nat.le_refl _)
          have d21 := (hbx.cell (p := ⟨gl, n, none⟩) hglz).trans d2
          have d31 := (hbx.frozen (p := ⟨gl, n, none⟩) hglz).trans d3
          obtain ⟨hR2, hbg⟩ := HPut.out w1 hbx
          have HR2 := Lib.hid hR2
          have HB2 := Lib.hid ((Below.after' HBk.out hbx (Nat.le_refl _)).setCell (p := ⟨gl, n, none⟩) hbg (.string (bs (la ++ l.tail))))
          clear hw1 hb1 hbx hR2
          rw [HXc.out]
          go_wp2
          go_roundw
          case rel => exact ⟨i + 1, by omega, by go_num, by rw [hput.out], by rw [hput.out, hem.out], by rw [hput.out, hem.out, hcl1.out]; exact HR2.out, HB2.out⟩
          case measure => simp [intOf]; omega
      · have p4 : ((ch.toNat : Int) == 32) = false := by
          rw [beq_eq_false_iff_ne]; intro h; exact h32 (UInt8.toNat_inj.1 (by show ch.toNat = 32; omega))
        have hput := Lib.hid (show Ma.runp (ls.take (i + 1)) = (0, out, now ++ [l]) by
          rw [hst.out]; unfold Ma.put
          rw [if_neg h72, if_neg hl0, if_pos (by rw [hhd]; intro h; injection h with h; exact h32 h)])
        have hcl1 := Lib.hid (show Ma.close (0, out, now ++ [l]) = out ++ [now ++ [l]] by unfold Ma.close; rw [if_neg (by simp), if_neg (by simp)])
        have hem := Lib.hid (show (!(now ++ [l]).isEmpty) = true by cases now <;> rfl)
        by_cases hn : now = []
        · subst hn
          have hcl0 : Ma.close (0, out, []) = out := by unfold Ma.close; rw [if_neg (by simp), if_pos rfl]
          rw [hcl0] at hRO
          obtain ⟨Av, cv, rfl, _⟩ := hRO.outs.reads
          have HRO := Lib.hid hRO
          obtain ⟨vals, v1, v2, v3, _⟩ := hRO
          have V1 := Lib.hid v1
          have V2 := Lib.hid v2
          have V3 := Lib.hid v3
          have kx := ((Below.refl wr.heap.size wr).alloc (Nat.le_refl _) (.cells #[.string (bs l)] 9)).alloc (by simp) (.cells #[.slice (some ⟨wr.heap.size, 0, none⟩) 1 1] 38)
          have hB1' : ((wr.alloc (.cells #[.string (bs l)] 9)).alloc (.cells #[.slice (some ⟨wr.heap.size, 0, none⟩) 1 1] 38)).heap[wr.heap.size + 1]? = some (.cells #[.slice (some ⟨wr.heap.size, 0, none⟩) 1 1] 38 (0, 0)) := by
            have := heap_alloc_new (wr.alloc (.cells #[.string (bs l)] 9)) (.cells #[.slice (some ⟨wr.heap.size, 0, none⟩) 1 1] 38)
            rwa [World.size_alloc] at this
          have KX := Lib.hid kx
          have HB1' := Lib.hid hB1'
          clear v1 v2 v3 hch hhd h32 hl0 h72 hcl0 kx hB1'
          go_wp2_with (at_builtin; refine wpList_appTT rfl _ _ rfl wl.heap.size (.slice Av out.length cv) out.length vals rfl (own_below V1.out KX.out) (wr.heap.size + 1) (.slice (some ⟨wr.heap.size, 0, none⟩) 1 1) rfl 38 (0, 0) rfl HB1'.out (by omega) (by simp; omega) ?_)
          intro v5 w5 hown5 hhop5
          have hRT : TRow ((wr.alloc (.cells #[.string (bs l)] 9)).alloc (.cells #[.slice (some ⟨wr.heap.size, 0, none⟩) 1 1] 38)) wl.heap.size (.slice (some ⟨wr.heap.size, 0, none⟩) 1 1) [l] := SRow.grow (TRow.one wr wl.heap.size hsz l) ((Below.refl _ _).alloc (Nat.le_refl _) _)
          have hR5 := Lib.hid (ROuts.push V1.out V2.out V3.out rfl KX.out hRT (fun k e => by simp [Value.ownBlock] at e; omega) hown5 hhop5.1)
          have hB5 := Lib.hid ((Below.after' HBk.out KX.out (Nat.le_refl _)).trans (hhop5.below (by simp; omega) (fun k e => (World.ownsRow.lt V1.out k e).1)))
          obtain ⟨g', cap', rfl⟩ := ownsRow_succ hown5
          clear hown5 hhop5 hRT
          go_wp2
          go_roundw
          case rel => exact ⟨i + 1, by omega, by go_num, by rw [hput.out], by rw [hput.out, hem.out], by rw [hput.out, hem.out, hcl1.out]; exact hR5.out, hB5.out⟩
          case measure => simp [intOf]; omega
        · have hcl0 : Ma.close (0, out, now) = out ++ [now] := by unfold Ma.close; rw [if_neg (by simp), if_neg hn]
          have p5 : (!now.isEmpty) = true := by cases now with | nil => exact absurd rfl hn | cons _ _ => rfl
          rw [hcl0, p5] at hRO
          obtain ⟨g, cap, rfl⟩ := hRO.form (by simp)
          rw [show (out ++ [now]).length = out.length + 1 by simp] at hRO ⊢
          obtain ⟨A1, k1, d1, hTn, hgz, _⟩ := hRO.last
          have ek : ((out.length + 1 : Nat) : Int) - 1 = (out.length : Int) := by omega
          have ek2 : ((out.length : Int) + 1) - 1 = (out.length : Int) := by omega
          have kx := (Below.refl wr.heap.size wr).alloc (Nat.le_refl _) (.cells #[.string (bs l)] 9)
          have HTn := Lib.hid hTn
          have HM := Lib.hid (fun w1 v' hown hv1 hhop => hRO.more (w1 := w1) (v' := v') (l := l) d1 kx hown hv1 hhop)
          clear hRO hch hhd h32 hl0 h72 hcl0 hTn
          rw [p5]
          go_wp2_with (at_builtin; refine wpList_appS rfl _ _ rfl wl.heap.size (.slice A1 now.length k1) now rfl (SRow.grow HTn.out kx) wr.heap.size l 9 (0, 0) rfl (heap_alloc_new _ _) (by omega) (by simp; omega) ?_)
          intro v5 w5 hown5 hhop5
          (obtain ⟨g', cap', rfl⟩ := ownsRow_succ (k := now.length) (by have h := hown5; unfold TRow SRow at h; rw [List.length_append] at h; exact h); obtain ⟨m1, f1, f2, m4⟩ := HM.out w5 _ hown5 rfl hhop5; have M1 := Lib.hid m1; have M4 := Lib.hid (m4 hsz); clear m1 m4 hown5 hhop5)
          go_wp2
          go_roundw
          case rel => exact ⟨i + 1, by omega, by go_num, by rw [hput.out], by rw [hput.out, hem.out], by rw [hput.out, hem.out, hcl1.out]; exact M1.out, HBk.out.trans M4.out⟩
          case measure => simp [intOf]; omega
    · rw [show ls.take i = ls from List.take_of_length_le (by omega)] at h0 hRO
      have HR := Lib.hid hRO.outs
      obtain ⟨Av, cv, rfl, _⟩ := hRO.outs.reads
      have hfin := Lib.hid h0
      clear hRO h0 hBk
      go_wp2
      go_ret2
      exact ⟨_, by rw [hfin.out]; rfl, HR.out.lower J1.out.size, HB.out⟩
end Go.Proofs.Ytbjhnfemlpbchaa
