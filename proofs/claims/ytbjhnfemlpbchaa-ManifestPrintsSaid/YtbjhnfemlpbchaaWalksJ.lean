/- The walks of layer 14: a section begins, and takes a header. -/
import Derived.Test.YtbjhnfemlpbchaaMapS
import Derived.Test.YtbjhnfemlpbchaaOrder
import Derived.Test.YtbjhnfemlpbchaaBuild
namespace Go.Proofs.Ytbjhnfemlpbchaa
open Go.RowKit Go.Maps

set_option maxHeartbeats 4000000 in
set_option maxRecDepth 100000 in
theorem open_any (main : Bool) (w : World) :
    Calls Try.prog 23 #[.bool main] w fun e w' => ∃ s, e = .returned (.pointer (some ⟨s, 0, none⟩)) ∧ Sec w' w.heap.size s main [] ∧ Below w.heap.size w w' := by
  have hmm := @run_makeMap Try.prog
  cases main
  · go_enter Try.func23, Try.ntmps23
    go_wp2_with fail
    go_ret
    refine ⟨_, rfl, ⟨w.heap.size, .slice none 0 0, ?_, (SSet.made w).keep ((Below.refl _ _).alloc (Nat.le_refl _) _), PRow.nil _ _, by omega, Nat.le_refl _⟩, ((Below.refl _ _).alloc (Nat.le_refl _) _).alloc (by simp) _⟩
    have := heap_alloc_new (w.alloc (.map #[] 0)) (.cells #[.string ⟨#[110, 97, 109, 101]⟩, .map (some w.heap.size), .slice none 0 0] 58)
    rw [World.size_alloc] at this
    exact this
  · go_enter Try.func23, Try.ntmps23
    go_wp2_with fail
    go_ret
    refine ⟨_, rfl, ⟨w.heap.size, .slice none 0 0, ?_, (SSet.made w).keep ((Below.refl _ _).alloc (Nat.le_refl _) _), PRow.nil _ _, by omega, Nat.le_refl _⟩, ((Below.refl _ _).alloc (Nat.le_refl _) _).alloc (by simp) _⟩
    have := heap_alloc_new (w.alloc (.map #[] 0)) (.cells #[.string ⟨#[109, 97, 110, 105, 102, 101, 115, 116, 45, 118, 101, 114, 115, 105, 111, 110]⟩, .map (some w.heap.size), .slice none 0 0] 58)
    rw [World.size_alloc] at this
    exact this

/-- What is wrong with a header behind others: 0 if nothing is. -/
def Ma.take (main : Bool) (ps : List Pr) (p : Pr) : Nat :=
  if Ma.value p.2 = false then 2
  else if Ma.name p.1 = false ∨ (ps = [] ∧ Ma.small p.1 ≠ Ma.first main) then 8
  else if (ps.map fun q => Ma.small q.1).contains (Ma.small p.1) then 10 else 0

def Ma.after (main : Bool) (ps : List Pr) (p : Pr) : List Pr := if Ma.take main ps p = 0 then ps ++ [p] else ps
theorem after_no {main : Bool} {ps : List Pr} {p : Pr} {n : Nat} (h : Ma.take main ps p = n) (hn : n ≠ 0) : Ma.after main ps p = ps := if_neg (by omega)
theorem after_ok {main : Bool} {ps : List Pr} {p : Pr} (h : Ma.take main ps p = 0) : Ma.after main ps p = ps ++ [p] := if_pos h

theorem wpList_appP {w : World} {ops : Array Oper} {rest : List Oper} {o : Oper} {a : Act} {Q : Exit → Act → World → Prop} (hgd : o.guard = none) (s x : Operand)
    (ho : o.op = .call { callee := .builtin .append, args := #[s, x], argTypes := #[24, 24] })
    (base : Nat) (v : Value) (xs : List Pr) (hv : a.eval s = v) (hown : PRow w base v xs) (B : Nat) (p : Pr) (t : TypeId) (fr : Nat × Nat) (hX : a.eval x = .slice (some ⟨B, 0, none⟩) 1 1)
    (hb : w.heap[B]? = some (.cells #[.string (bs p.1), .string (bs p.2)] t fr)) (hn : xs.length ≤ 1000000) (hbase : base ≤ w.heap.size)
    (h : ∀ v' w', PRow w' base v' (xs ++ [p]) → Hop w w' v.ownBlock v'.ownBlock → wpList Try.prog ops Q rest (a.put o.dst v') w') : wpList Try.prog ops Q (o :: rest) a w := by
  obtain ⟨i0, hi, hz0, hz1, hz2⟩ := info_parts infoPair
  refine wpList_append_row hgd s x 24 24 ho base 44 i0 _ 2 32 Try.underlying24 hi hz0 hz1 hz2 rfl v _ _ hv hown _ 1 [.string (bs p.1), .string (bs p.2)] hX (fun v' w' h1 h2 => h v' w' (PRow.app (ys := [p]) h1 rfl) h2) ?_ ?_ ?_ hbase
  · exact src_block Try.underlying24 2 1 1 _ #[.string (bs p.1), .string (bs p.2)] _ _ hb rfl (by simp [Value.oneCell'])
  · unfold maxLen; omega
  · omega
/-- A section whose row of headers has turned. -/
theorem sec_set {w : World} {s : Nat} {b m v v' : Value} (h : w.heap[s]? = some (.cells #[b, m, v] 58 (0, 0))) : (w.setCell ⟨s, 2, none⟩ v').heap[s]? = some (.cells #[b, m, v'] 58 (0, 0)) := by
  simp only [World.setCell, Array.getElem?_modify, if_true, h, Option.map_some]
  rfl
theorem own_cells {w : World} {base : Nat} {v : Value} {xs : List Pr} (h : PRow w base v xs) {g : Nat} (hg : v.ownBlock = some g) : ∃ cur, w.heap[g]? = some (.cells cur 44 (0, 0)) := by
  rcases h.2 with ⟨h, _⟩ | ⟨g', cap, cur, h, _, hg', _⟩
  · rw [h] at hg; simp [Value.ownBlock] at hg
  · rw [h] at hg
    simp [Value.ownBlock] at hg
    subst hg
    exact ⟨cur, hg'⟩

set_option maxHeartbeats 8000000 in
set_option maxRecDepth 100000 in
theorem take_keeps (base s : Nat) (main : Bool) (ps : List Pr) (p : Pr) (m : Nat) (v : Value) (w : World) (hS : SecAt w base s main ps m v) (hbs : base ≤ w.heap.size) (hn : ps.length ≤ 1000000) (h1 : p.1.length ≤ 1000000000) (h2 : p.2.length ≤ 1000000000) :
    Calls Try.prog 25 #[.pointer (some ⟨s, 0, none⟩), pv p] w fun e w' => e = .returned (.int .i64 (Ma.take main ps p : Nat)) ∧ Sec w' base s main (Ma.after main ps p) ∧ Below base w w' ∧ ∀ k, k < w.heap.size → k ≠ s → k ≠ m → some k ≠ v.ownBlock → w'.heap[k]? = w.heap[k]? := by
  have HS0 := Lib.hid hS
  have HS := Lib.hid (show Sec w base s main ps from ⟨m, v, hS⟩)
  have HP1 := Lib.hid (fun w => small_any p.1 w h1)
  have HP2 := Lib.hid (fun w => value_any p.2 w h2)
  have HP3 := Lib.hid (fun w => name_any p.1 w h1)
  have hsl : (Ma.small p.1).length ≤ 1000000000 := by unfold Ma.small; rw [List.length_map]; exact h1
  have hT := Lib.hid (show Ma.take main ps p = if Ma.value p.2 = false then 2
  else if Ma.name p.1 = false ∨ (ps = [] ∧ Ma.small p.1 ≠ Ma.first main) then 8
  else if (ps.map fun q => Ma.small q.1).contains (Ma.small p.1) then 10 else 0 from rfl)
  have hmap := Lib.hid (show (ps ++ [p]).map (fun q => Ma.small q.1) = (ps.map fun q => Ma.small q.1) ++ [Ma.small p.1] by simp)
  unfold pv
  generalize Ma.small p.1 = sm at *
  generalize Ma.value p.2 = va at *
  generalize Ma.name p.1 = na at *
  generalize hsl' : (ps.map fun q => Ma.small q.1) = ks at *
  have HKS := Lib.hid hsl'
  clear hS hsl'
  go_enter Try.func25, Try.ntmps25
  go_wp2_with fail
  have q : (w.alloc (.cells #[.string (bs p.1), .string (bs p.2)] 44)).heap[w.heap.size]? = some (.cells #[.string (bs p.1), .string (bs p.2)] 44 (0, 0)) := heap_alloc_new _ _
  have k0 := (Below.refl w.heap.size w).alloc (Nat.le_refl _) (.cells #[.string (bs p.1), .string (bs p.2)] 44)
  generalize w.alloc (.cells #[.string (bs p.1), .string (bs p.2)] 44) = W at q k0 ⊢
  have hWq : w.heap.size < W.heap.size := (Array.getElem?_eq_some_iff.1 q).1
  refine (HP1.out W).mono ?_
  rintro e w1 ⟨rfl, hb1⟩
  have k1 := Below.after' k0 hb1 (Nat.le_refl _)
  have q1 := (hb1.block _ hWq).trans q
  have c1 : w1.cell? ⟨w.heap.size, 1, none⟩ = some (.string (bs p.2)) := (blk_facts q1).1 1
  have K1 := Lib.hid k1
  have Q1 := Lib.hid q1
  have hs1 := hb1.size
  clear hb1 q k0 k1 q1
  go_wp2_with fail
  refine (HP2.out w1).mono ?_
  rintro e w2 ⟨rfl, hb2⟩
  have k2 := Below.after' K1.out hb2 (Nat.le_refl _)
  have q2 := (hb2.block _ (by omega)).trans Q1.out
  have c2 : w2.cell? ⟨w.heap.size, 0, none⟩ = some (.string (bs p.1)) := (blk_facts q2).1 0
  have K2 := Lib.hid k2
  have Q2 := Lib.hid q2
  have hs2 := hb2.size
  clear hb2 k2 q2 c1
  cases va with
  | false =>
    have E1 := Lib.hid (show Ma.take main ps p = 2 by rw [hT.out]; rfl)
    have HF := Lib.hid (HS.out.keep K2.out)
    go_wp2
    go_ret
    exact ⟨ret_int (by rw [E1.out]; rfl), by rw [after_no E1.out (by decide)]; exact HF.out, K2.out.mono hbs, fun k hk _ _ _ => K2.out.block k hk⟩
  | true =>
  go_wp2_with fail
  refine (HP3.out w2).mono ?_
  rintro e w3 ⟨rfl, hb3⟩
  have k3 := Below.after' K2.out hb3 (Nat.le_refl _)
  have q3 := (hb3.block _ (by omega)).trans Q2.out
  have c3 : w3.cell? ⟨w.heap.size, 0, none⟩ = some (.string (bs p.1)) := (blk_facts q3).1 0
  have c4 : w3.cell? ⟨w.heap.size, 1, none⟩ = some (.string (bs p.2)) := (blk_facts q3).1 1
  have K3 := Lib.hid k3
  have Q3 := Lib.hid q3
  have hs3 := hb3.size
  have HF := Lib.hid (HS.out.keep k3)
  obtain ⟨g1, g2, g3, g4, g5⟩ := HS0.out.keep k3
  obtain ⟨A, c, rfl, hPr, _⟩ := g3.reads
  have G2 := Lib.hid g2
  have G3 := Lib.hid g3
  have G1 := Lib.hid g1
  obtain ⟨f1, f2⟩ := blk_facts g1
  have d0 : w3.cell? ⟨s, 0, none⟩ = some (.string (bs (Ma.first main))) := f1 0
  have d1 : w3.cell? ⟨s, 1, none⟩ = some (.map (some m)) := f1 1
  have d2 : w3.cell? ⟨s, 2, none⟩ = some (.slice A ps.length c) := f1 2
  have df := f2 2
  have hlook := Lib.hid g2
  rw [HKS.out] at hlook
  have hlk := hlook.out.look hsl
  clear hb3 k3 q3 c2 f1 f2 g1 g2 g3 hPr
  cases na with
  | false =>
    have E1 := Lib.hid (show Ma.take main ps p = 8 by rw [hT.out]; simp)
    go_wp2
    go_ret
    exact ⟨ret_int (by rw [E1.out]; rfl), by rw [after_no E1.out (by decide)]; exact HF.out, K3.out.mono hbs, fun k hk _ _ _ => K3.out.block k hk⟩
  | true =>
  by_cases hbad : ps = [] ∧ sm ≠ Ma.first main
  · have E1 := Lib.hid (show Ma.take main ps p = 8 by rw [hT.out]; simp [hbad])
    have u1 : ((ps.length : Int) == 0) = true := by rw [hbad.1]; rfl
    have u2 : ((bs sm).toList == (bs (Ma.first main)).toList) = false := by rw [bs_beq]; simp [hbad.2]
    clear hbad
    go_wp2
    go_ret
    exact ⟨ret_int (by rw [E1.out]; rfl), by rw [after_no E1.out (by decide)]; exact HF.out, K3.out.mono hbs, fun k hk _ _ _ => K3.out.block k hk⟩
  have hT2 := Lib.hid (show Ma.take main ps p = if ks.contains sm then 10 else 0 by rw [hT.out]; simp [hbad])
  cases hin : ks.contains sm with
  | true =>
    rw [hin] at hlk
    have E1 := Lib.hid (show Ma.take main ps p = 10 by rw [hT2.out, hin]; rfl)
    clear hin
    by_cases h0 : ps = []
    · have u1 : ((ps.length : Int) == 0) = true := by rw [h0]; rfl
      have u2 : ((bs sm).toList == (bs (Ma.first main)).toList) = true := by
        rw [bs_beq]; simp; exact Classical.not_not.1 fun h => hbad ⟨h0, h⟩
      clear hbad h0
      go_wp2
      go_ret
      exact ⟨ret_int (by rw [E1.out]; rfl), by rw [after_no E1.out (by decide)]; exact HF.out, K3.out.mono hbs, fun k hk _ _ _ => K3.out.block k hk⟩
    · have u1 : ((ps.length : Int) == 0) = false := by
        rw [beq_eq_false_iff_ne]; intro h; exact h0 (List.eq_nil_of_length_eq_zero (by omega))
      clear hbad h0
      go_wp2
      go_ret
      exact ⟨ret_int (by rw [E1.out]; rfl), by rw [after_no E1.out (by decide)]; exact HF.out, K3.out.mono hbs, fun k hk _ _ _ => K3.out.block k hk⟩
  | false =>
    rw [hin] at hlk
    have E1 := Lib.hid (show Ma.take main ps p = 0 by rw [hT2.out, hin]; rfl)
    clear hin
    obtain ⟨D, o1, o2⟩ := hlook.out
    have O1 := Lib.hid o1
    have O2 := Lib.hid o2
    clear o1 o2
    by_cases h0 : ps = []
    · have u1 : ((ps.length : Int) == 0) = true := by rw [h0]; rfl
      have u2 : ((bs sm).toList == (bs (Ma.first main)).toList) = true := by
        rw [bs_beq]; simp; exact Classical.not_not.1 fun h => hbad ⟨h0, h⟩
      clear hbad h0
      go_wp2_with (first | (at_mapUpdate; refine wpList_mapUpdate_own _ rfl _ _ _ 56 rfl 9 4 lawS Try.underlying56 _ m ks.length _ rfl O1.out (by rw [← HKS.out, List.length_map]; unfold maxLen; omega) _ _ _ rfl rfl (keyS hsl) (.lit (.bool true)) [] (plainElem_bool Try.underlying4 true) ?_; intro w4 hown4 hgrow4) | go_in)
      have hsm := G2.out.ne G1.out
      have hwm := G2.out.ne Q3.out
      have j1 := (hgrow4.block s (Array.getElem?_eq_some_iff.1 G1.out).1 (fun e => hsm (by injection e with e; exact e.symm))).trans G1.out
      have j2 := (hgrow4.block w.heap.size (Array.getElem?_eq_some_iff.1 Q3.out).1 (fun e => hwm (by injection e with e; exact e.symm))).trans Q3.out
      have j3 : PRow w4 base (.slice A ps.length c) ps := World.ownsRow.kept G3.out hgrow4 (.inr fun e => by
        rcases G3.out.2 with ⟨h, _⟩ | ⟨g, cap, cur, h, _, hg, _⟩
        · rw [h] at e; simp [Value.ownBlock] at e
        · rw [h] at e
          simp [Value.ownBlock] at e
          subst e
          exact G2.out.ne hg rfl)
      have j4 := SSet.put O1.out O2.out hown4 rfl
      have KP4 := Lib.hid (show ∀ k, k < w.heap.size → k ≠ m → w4.heap[k]? = w.heap[k]? from fun k hk hm => (hgrow4.block k (Nat.lt_of_lt_of_le hk K3.out.size) (fun e => hm (by injection e))).trans (K3.out.block k hk))
      have hs34 := hgrow4.size
      have hB4 := Lib.hid ((K3.out.mono hbs).grown hgrow4 (by omega) (fun k e => by injection e with e; omega))
      obtain ⟨f1, f2⟩ := blk_facts j1
      obtain ⟨f3, f4⟩ := blk_facts j2
      have zs : s < w4.drew.heap.size := (Array.getElem?_eq_some_iff.1 j1).1
      have zb : w.heap.size < w4.drew.heap.size := (Array.getElem?_eq_some_iff.1 j2).1
      have d2' : w4.cell? ⟨s, 2, none⟩ = some (.slice A ps.length c) := f1 2
      have c3' : w4.cell? ⟨w.heap.size, 0, none⟩ = some (.string (bs p.1)) := f3 0
      have c4' : w4.cell? ⟨w.heap.size, 1, none⟩ = some (.string (bs p.2)) := f3 1
      have J1 := Lib.hid j1
      have J3 := Lib.hid j3
      have J4 := Lib.hid j4
      clear hown4 hgrow4 f1 f2 f3 f4 j1 j2 j3 j4 hlk c3 c4 d0 d1 d2 df
      go_wp2_with fail
      simp only [Act.put]
      refine wp_region_ord 7 (by kernel_rfl) (by kernel_rfl) (fun _ _ d _ _ h => by cases d <;> exact h) ?_
      simp only [List.take_succ_cons, List.take_zero, List.drop_succ_cons, List.drop_zero]
      repeat (first | (refine wpLex_skip rfl ?_; simp only [Act.put, List.setIfInBounds_toArray, List.set_cons_zero, List.set_cons_succ]) | (refine wpLex_fix rfl ?_; intro F hF R hR hne K hK; go_big_quiet_op; first | (go_big_quiet_on; clear hne hR R hF F) | (apply Exists.intro; refine ⟨fun g => ?_, ?_⟩; (((first | (rw [GrE.cell g _ _ zs]; go_simp; first | exact ⟨rfl, rfl⟩ | rfl) | (go_simp; (repeat (simp only [GrE.cell g _ _ zb]; go_simp)); first | exact ⟨rfl, rfl⟩ | rfl)))); go_big_quiet_on; clear hne hR R hF F)) | (apply wpLex_blk rfl; (focus (intro x hx; go_simp; exact ⟨rfl, rfl⟩)); intro B hB; simp only [Act.put, blkVal, List.setIfInBounds_toArray, List.set_cons_zero, List.set_cons_succ]))
      refine wpLex_nil ?_
      intro w1 hw1
      have hfb := (hw1.fact 53 _ _ (.inr ⟨rfl, rfl, rfl⟩)).2
      have hBd := Lib.hid (Below.after' (Below.refl w4.heap.size w4).drew hw1.below (Nat.le_refl _))
      have hJ3 := J3.out.grow hBd.out
      have hbw : base ≤ w1.heap.size := by have := hB4.out.size; have := hBd.out.size; omega
      clear hw1
      go_wp2_with (at_builtin; refine wpList_appP rfl _ _ rfl base (.slice A ps.length c) ps rfl hJ3 B p 44 (0, 0) rfl hfb hn hbw ?_)
      intro v' w6 hown6 hhop6
      have m5 := (hBd.out.block s (by simpa using zs)).trans J1.out
      have ne1 : some s ≠ (Value.slice A ps.length c).ownBlock := fun e => by
        obtain ⟨cur, hc⟩ := own_cells hJ3 e.symm
        rw [m5] at hc
        simp at hc
      have j6 := (hhop6.1.block s (Nat.lt_of_lt_of_le (by simpa using zs) hBd.out.size) ne1).trans m5
      have j7 := (J4.out.keep hBd.out).kept hhop6.1 fun e => by
        obtain ⟨cur, hc⟩ := own_cells hJ3 e.symm
        exact (J4.out.keep hBd.out).ne hc rfl
      have ne2 : v'.ownBlock ≠ some s := fun e => by
        obtain ⟨cur, hc⟩ := own_cells hown6 e
        rw [j6] at hc
        simp at hc
      have hB6 := (Below.after' hB4.out hBd.out hbs).trans (hhop6.below hbw (fun k hk => hJ3.base_le hk))
      obtain ⟨A', c', rfl, _, _⟩ := hown6.reads
      have KP7 := Lib.hid (show ∀ k, k < w.heap.size → k ≠ s → k ≠ m → some k ≠ (Value.slice A ps.length c).ownBlock → (w6.setCell ⟨s, 2, none⟩ (.slice A' (ps ++ [p]).length c')).heap[k]? = w.heap[k]? from fun k hk h1 h2 h3 => (Below.heap_setCell _ _ _ _ h1).trans ((hhop6.1.block k (Nat.lt_of_lt_of_le (by have := K3.out.size; omega) hBd.out.size) h3).trans ((hBd.out.block k (by have := K3.out.size; omega)).trans (KP4.out k hk h2))))
      have hB7 := Lib.hid (hB6.setCell (p := ⟨s, 2, none⟩) g4 (.slice A' (ps ++ [p]).length c'))
      have hS7 := Lib.hid (show Sec (w6.setCell ⟨s, 2, none⟩ (.slice A' (ps ++ [p]).length c')) base s main (Ma.after main ps p) from by
        rw [after_ok E1.out]
        refine ⟨m, _, sec_set j6, ?_, ownsRow_setCell_other hown6 ne2 _, g4, g5⟩
        rw [hmap.out]
        exact j7.setCell (j7.ne j6) _)
      have hfr : w6.frozen? ⟨s, 2, none⟩ = false := (blk_facts j6).2 2
      have hce : w6.cell? ⟨s, 2, none⟩ = some (.slice A ps.length c) := (blk_facts j6).1 2
      clear hown6 hhop6 m5 ne1 j6 j7 ne2 hB6 hfb hJ3 d2' c3' c4' zs zb
      go_wp2
      go_ret
      have hl1 : (ps ++ [p]).length = ps.length + 1 := by simp
      have hS8 := hS7.out
      have hB8 := hB7.out
      have hK8 := KP7.out
      rw [hl1] at hS8 hB8 hK8
      exact ⟨ret_int (by rw [E1.out]; rfl), hS8, hB8, hK8⟩
    · have u1 : ((ps.length : Int) == 0) = false := by
        rw [beq_eq_false_iff_ne]; intro h; exact h0 (List.eq_nil_of_length_eq_zero (by omega))
      clear hbad h0
      go_wp2_with (first | (at_mapUpdate; refine wpList_mapUpdate_own _ rfl _ _ _ 56 rfl 9 4 lawS Try.underlying56 _ m ks.length _ rfl O1.out (by rw [← HKS.out, List.length_map]; unfold maxLen; omega) _ _ _ rfl rfl (keyS hsl) (.lit (.bool true)) [] (plainElem_bool Try.underlying4 true) ?_; intro w4 hown4 hgrow4) | go_in)
      have hsm := G2.out.ne G1.out
      have hwm := G2.out.ne Q3.out
      have j1 := (hgrow4.block s (Array.getElem?_eq_some_iff.1 G1.out).1 (fun e => hsm (by injection e with e; exact e.symm))).trans G1.out
      have j2 := (hgrow4.block w.heap.size (Array.getElem?_eq_some_iff.1 Q3.out).1 (fun e => hwm (by injection e with e; exact e.symm))).trans Q3.out
      have j3 : PRow w4 base (.slice A ps.length c) ps := World.ownsRow.kept G3.out hgrow4 (.inr fun e => by
        rcases G3.out.2 with ⟨h, _⟩ | ⟨g, cap, cur, h, _, hg, _⟩
        · rw [h] at e; simp [Value.ownBlock] at e
        · rw [h] at e
          simp [Value.ownBlock] at e
          subst e
          exact G2.out.ne hg rfl)
      have j4 := SSet.put O1.out O2.out hown4 rfl
      have KP4 := Lib.hid (show ∀ k, k < w.heap.size → k ≠ m → w4.heap[k]? = w.heap[k]? from fun k hk hm => (hgrow4.block k (Nat.lt_of_lt_of_le hk K3.out.size) (fun e => hm (by injection e))).trans (K3.out.block k hk))
      have hs34 := hgrow4.size
      have hB4 := Lib.hid ((K3.out.mono hbs).grown hgrow4 (by omega) (fun k e => by injection e with e; omega))
      obtain ⟨f1, f2⟩ := blk_facts j1
      obtain ⟨f3, f4⟩ := blk_facts j2
      have zs : s < w4.drew.heap.size := (Array.getElem?_eq_some_iff.1 j1).1
      have zb : w.heap.size < w4.drew.heap.size := (Array.getElem?_eq_some_iff.1 j2).1
      have d2' : w4.cell? ⟨s, 2, none⟩ = some (.slice A ps.length c) := f1 2
      have c3' : w4.cell? ⟨w.heap.size, 0, none⟩ = some (.string (bs p.1)) := f3 0
      have c4' : w4.cell? ⟨w.heap.size, 1, none⟩ = some (.string (bs p.2)) := f3 1
      have J1 := Lib.hid j1
      have J3 := Lib.hid j3
      have J4 := Lib.hid j4
      clear hown4 hgrow4 f1 f2 f3 f4 j1 j2 j3 j4 hlk c3 c4 d0 d1 d2 df
      go_wp2_with fail
      simp only [Act.put]
      refine wp_region_ord 7 (by kernel_rfl) (by kernel_rfl) (fun _ _ d _ _ h => by cases d <;> exact h) ?_
      simp only [List.take_succ_cons, List.take_zero, List.drop_succ_cons, List.drop_zero]
      repeat (first | (refine wpLex_skip rfl ?_; simp only [Act.put, List.setIfInBounds_toArray, List.set_cons_zero, List.set_cons_succ]) | (refine wpLex_fix rfl ?_; intro F hF R hR hne K hK; go_big_quiet_op; first | (go_big_quiet_on; clear hne hR R hF F) | (apply Exists.intro; refine ⟨fun g => ?_, ?_⟩; (((first | (rw [GrE.cell g _ _ zs]; go_simp; first | exact ⟨rfl, rfl⟩ | rfl) | (go_simp; (repeat (simp only [GrE.cell g _ _ zb]; go_simp)); first | exact ⟨rfl, rfl⟩ | rfl)))); go_big_quiet_on; clear hne hR R hF F)) | (apply wpLex_blk rfl; (focus (intro x hx; go_simp; exact ⟨rfl, rfl⟩)); intro B hB; simp only [Act.put, blkVal, List.setIfInBounds_toArray, List.set_cons_zero, List.set_cons_succ]))
      refine wpLex_nil ?_
      intro w1 hw1
      have hfb := (hw1.fact 53 _ _ (.inr ⟨rfl, rfl, rfl⟩)).2
      have hBd := Lib.hid (Below.after' (Below.refl w4.heap.size w4).drew hw1.below (Nat.le_refl _))
      have hJ3 := J3.out.grow hBd.out
      have hbw : base ≤ w1.heap.size := by have := hB4.out.size; have := hBd.out.size; omega
      clear hw1
      go_wp2_with (at_builtin; refine wpList_appP rfl _ _ rfl base (.slice A ps.length c) ps rfl hJ3 B p 44 (0, 0) rfl hfb hn hbw ?_)
      intro v' w6 hown6 hhop6
      have m5 := (hBd.out.block s (by simpa using zs)).trans J1.out
      have ne1 : some s ≠ (Value.slice A ps.length c).ownBlock := fun e => by
        obtain ⟨cur, hc⟩ := own_cells hJ3 e.symm
        rw [m5] at hc
        simp at hc
      have j6 := (hhop6.1.block s (Nat.lt_of_lt_of_le (by simpa using zs) hBd.out.size) ne1).trans m5
      have j7 := (J4.out.keep hBd.out).kept hhop6.1 fun e => by
        obtain ⟨cur, hc⟩ := own_cells hJ3 e.symm
        exact (J4.out.keep hBd.out).ne hc rfl
      have ne2 : v'.ownBlock ≠ some s := fun e => by
        obtain ⟨cur, hc⟩ := own_cells hown6 e
        rw [j6] at hc
        simp at hc
      have hB6 := (Below.after' hB4.out hBd.out hbs).trans (hhop6.below hbw (fun k hk => hJ3.base_le hk))
      obtain ⟨A', c', rfl, _, _⟩ := hown6.reads
      have KP7 := Lib.hid (show ∀ k, k < w.heap.size → k ≠ s → k ≠ m → some k ≠ (Value.slice A ps.length c).ownBlock → (w6.setCell ⟨s, 2, none⟩ (.slice A' (ps ++ [p]).length c')).heap[k]? = w.heap[k]? from fun k hk h1 h2 h3 => (Below.heap_setCell _ _ _ _ h1).trans ((hhop6.1.block k (Nat.lt_of_lt_of_le (by have := K3.out.size; omega) hBd.out.size) h3).trans ((hBd.out.block k (by have := K3.out.size; omega)).trans (KP4.out k hk h2))))
      have hB7 := Lib.hid (hB6.setCell (p := ⟨s, 2, none⟩) g4 (.slice A' (ps ++ [p]).length c'))
      have hS7 := Lib.hid (show Sec (w6.setCell ⟨s, 2, none⟩ (.slice A' (ps ++ [p]).length c')) base s main (Ma.after main ps p) from by
        rw [after_ok E1.out]
        refine ⟨m, _, sec_set j6, ?_, ownsRow_setCell_other hown6 ne2 _, g4, g5⟩
        rw [hmap.out]
        exact j7.setCell (j7.ne j6) _)
      have hfr : w6.frozen? ⟨s, 2, none⟩ = false := (blk_facts j6).2 2
      have hce : w6.cell? ⟨s, 2, none⟩ = some (.slice A ps.length c) := (blk_facts j6).1 2
      clear hown6 hhop6 m5 ne1 j6 j7 ne2 hB6 hfb hJ3 d2' c3' c4' zs zb
      go_wp2
      go_ret
      have hl1 : (ps ++ [p]).length = ps.length + 1 := by simp
      have hS8 := hS7.out
      have hB8 := hB7.out
      have hK8 := KP7.out
      rw [hl1] at hS8 hB8 hK8
      exact ⟨ret_int (by rw [E1.out]; rfl), hS8, hB8, hK8⟩
theorem take_any (base s : Nat) (main : Bool) (ps : List Pr) (p : Pr) (w : World) (hS : Sec w base s main ps) (hbs : base ≤ w.heap.size) (hn : ps.length ≤ 1000000) (h1 : p.1.length ≤ 1000000000) (h2 : p.2.length ≤ 1000000000) :
    Calls Try.prog 25 #[.pointer (some ⟨s, 0, none⟩), pv p] w fun e w' => e = .returned (.int .i64 (Ma.take main ps p : Nat)) ∧ Sec w' base s main (Ma.after main ps p) ∧ Below base w w' :=
  let ⟨m, v, h⟩ := hS
  (take_keeps base s main ps p m v w h hbs hn h1 h2).mono fun _ _ h => ⟨h.1, h.2.1, h.2.2.1⟩
end Go.Proofs.Ytbjhnfemlpbchaa
