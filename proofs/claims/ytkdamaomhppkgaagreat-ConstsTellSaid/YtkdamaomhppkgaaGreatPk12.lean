/- Joined texts: TabB, Cj, Ck, WdE. -/
import Derived.Test.YtkdamaomhppkgaaGreatPk7
import Derived.Test.YtkdamaomhppkgaaGreatPk2
import Derived.BigRegion
import Derived.Test.YtkdamaomhppkgaaGreatPk11
import Derived.Deep.RegionLaw
import Derived.Deep.DeepCutAuto
import Derived.LoopN
import Derived.Test.YtkdamaomhppkgaaGreatPk1
import Derived.Deep.RegionWith
import Derived.StillTailTactics
import Derived.Deep.Onto
/- The walks of layer 28: an empty table; a value more. -/
namespace Go.Proofs.YtkdamaomhppkgaaGreat
open Go.RowKit Go.Maps

set_option maxRecDepth 100000 in
theorem start_any (w : World) : Calls Tryz.prog 23 #[] w fun e w' => ∃ us, e = .returned (.pointer (some ⟨w.heap.size + 1, 0, none⟩)) ∧ TabS w' w.heap.size (w.heap.size + 1) w.heap.size 0 us (fun _ => []) (fun _ => 0) (fun _ => false) ∧ Below w.heap.size w w' := by
  have hmm := @run_makeMap Tryz.prog
  have k0 := (Below.refl w.heap.size w).alloc (Nat.le_refl _) (.map #[] 0)
  have k1 := Lib.hid (k0.alloc k0.size (.cells #[.slice none 0 0, .slice none 0 0, .slice none 0 0, .slice none 0 0, .slice none 0 0, .slice none 0 0, .slice none 0 0, .slice none 0 0, .slice none 0 0, .slice none 0 0, .slice none 0 0, .slice none 0 0, .slice none 0 0, .map (some w.heap.size)] 70))
  have T := Lib.hid (show TabS ((w.alloc (.map #[] 0)).alloc (.cells #[.slice none 0 0, .slice none 0 0, .slice none 0 0, .slice none 0 0, .slice none 0 0, .slice none 0 0, .slice none 0 0, .slice none 0 0, .slice none 0 0, .slice none 0 0, .slice none 0 0, .slice none 0 0, .slice none 0 0, .map (some w.heap.size)] 70)) w.heap.size (w.heap.size + 1) w.heap.size 0 (fun _ => .slice none 0 0) (fun _ => []) (fun _ => 0) (fun _ => false) from
    ⟨⟨_, heap_alloc2_new w (.map #[] 0) _, rfl, (fun t ht => by
      obtain rfl | rfl | rfl | rfl | rfl | rfl | rfl | rfl | rfl | rfl | rfl | rfl | rfl : t = 0 ∨ t = 1 ∨ t = 2 ∨ t = 3 ∨ t = 4 ∨ t = 5 ∨ t = 6 ∨ t = 7 ∨ t = 8 ∨ t = 9 ∨ t = 10 ∨ t = 11 ∨ t = 12 := by omega
      all_goals rfl), rfl⟩, fun t _ => VRow.nil _ _, (fun s t _ _ _ k hk => by cases hk), (VTab.made w).grow ((Below.refl _ _).alloc (Nat.le_refl _) _), by omega, Nat.le_refl _⟩)
  clear k0
  go_enter Tryz.func23, Tryz.ntmps23
  go_wp2
  go_ret
  exact ⟨_, rfl, T.out, k1.out⟩
set_option maxRecDepth 100000 in
set_option maxHeartbeats 4000000 in
theorem add_aux (base b m n t : Nat) (us : Nat → Value) (R : Nat → List Pv) (f : Pv → Int) (S : Pv → Bool) (text : List UInt8) (bits : Nat) (cls name desc : List UInt8) (v : Pv) (he : v = ⟨(t : Int), text, bits, cls, name, desc⟩) (w : World) (h : TabS w base b m n us R f S) (hv : v.fits) (ht2 : 1 ≤ t ∧ t ≤ 12) (hn : n ≤ 1000000) (hl : (R t).length ≤ 1000000) :
    Calls Tryz.prog 27 #[.pointer (some ⟨b, 0, none⟩), .agg #[.int .i64 t, .string (bs text), .int .u64 bits, .string (bs cls), .string (bs name), .string (bs desc)]] w fun e w' => e = .returned (.tuple #[]) ∧ (∃ us', TabS w' base b m (n + 1) us' (fun k => if k = t then R t ++ [v] else R k) (fun u => if u = v then ((R t).length : Int) else f u) (fun u => decide (u = v) || S u) ∧ ∀ s k, (us' s).ownBlock = some k → (us s).ownBlock = some k ∨ w.heap.size ≤ k) ∧ (∀ k, k < w.heap.size → k ≠ b → k ≠ m → (us t).ownBlock ≠ some k → w'.heap[k]? = w.heap[k]?) ∧ Below base w w' := by
  have k0 := Lib.hid ((Below.refl w.heap.size w).alloc (Nat.le_refl _) (.cells #[.int .i64 t, .string (bs text), .int .u64 bits, .string (bs cls), .string (bs name), .string (bs desc)] 36))
  have q0 := Lib.hid (vbox_new w ⟨(t : Int), text, bits, cls, name, desc⟩)
  have HE := Lib.hid he
  clear he
  have T0 := Lib.hid (h.grow k0.out)
  have hwb : base ≤ w.heap.size := Nat.le_trans h.hb (Nat.le_of_lt h.box.lt)
  have htl : t < 13 := by omega
  have HLT := Lib.hid (fun k (hk : (us t).ownBlock = some k) => (World.ownsRow.lt (h.rows t htl) k hk).2)
  clear h
  go_enter Tryz.func27, Tryz.ntmps27
  go_wp2_with fail
  generalize w.alloc (.cells #[.int .i64 t, .string (bs text), .int .u64 bits, .string (bs cls), .string (bs name), .string (bs desc)] 36) = W at k0 q0 T0 ⊢
  obtain ⟨A, c, eu, hV0, hA0⟩ := (T0.out.rows t htl).reads
  clear hV0 hA0
  have m1 := T0.out.box.map
  have r1 := T0.out.box.cell htl
  rw [eu] at r1
  obtain ⟨d0, d1, d2, d3, d4, d5⟩ := q0.out.at_
  dsimp only at d0 d1 d2 d3 d4 d5
  have hz := q0.out.lt
  have hbz := T0.out.box.lt
  have i1 : (t : Int) < 13 := by omega
  have i2 : decide (t < 13) = true := decide_eq_true htl
  have EU := Lib.hid eu
  clear eu
  refine wp_region_draw_tail 13 (by kernel_rfl) (by kernel_rfl) ?_
  simp only [List.take_succ_cons, List.take_zero, List.drop_succ_cons, List.drop_zero]
  repeat (go_big_quiet_step (fail))
  refine wpQuiet_nil ?_
  intro q1
  obtain ⟨x4, e4⟩ : ∃ x4, x4 = W.drewN q1 := ⟨_, rfl⟩
  have T4 := Lib.hid (show TabS x4 base b m n us R f S from by rw [e4]; exact T0.out.grow (below_drewN (Below.refl _ _) q1))
  have q4 := Lib.hid (show VBox x4 w.heap.size ⟨(t : Int), text, bits, cls, name, desc⟩ from by rw [e4]; exact q0.out)
  have k4 := Lib.hid (show Below w.heap.size w x4 from by rw [e4]; exact below_drewN k0.out q1)
  rw [← e4]
  have hvv : Value.agg #[.int .i64 (t : Int), .string (bs text), .int .u64 bits, .string (bs cls), .string (bs name), .string (bs desc)] = vv v := by rw [HE.out]; rfl
  have HVV := Lib.hid hvv
  have HI := Lib.hid (show I64 ((R t).length : Int) by unfold I64; omega)
  have HNM := Lib.hid (show n < maxLen by unfold maxLen; omega)
  have HFK := Lib.hid hv.k
  clear e4 d0 d1 d2 d3 d4 d5 hz hbz m1 r1 T0 q0 k0 hvv
  go_wp2_with (at_mapUpdate; refine wpList_tabPut rfl _ _ _ rfl m n f S v (R t).length rfl T4.out.num HNM.out HFK.out HVV.out rfl HI.out ?_; intro x5 hn5 hg5)
  have T5 := Lib.hid (T4.out.nums hn5 hg5)
  have hm5 : m ≠ w.heap.size := T4.out.num.ne q4.out
  have q5 := Lib.hid ((hg5.block _ q4.out.lt (fun e => hm5 (Option.some.inj e).symm)).trans q4.out)
  have k5 := Lib.hid (show Below base w x5 from (k4.out.mono hwb).grown hg5 (Nat.le_trans hwb k4.out.size) (fun j hj => by cases hj; exact T4.out.hm))
  have H5 := Lib.hid (show ∀ k, k < w.heap.size → k ≠ m → x5.heap[k]? = w.heap[k]? from fun k hk hm => (hg5.block k (Nat.lt_of_lt_of_le hk k4.out.size) (fun e => hm (Option.some.inj e))).trans (k4.out.block k hk))
  have hw5 : w.heap.size ≤ x5.heap.size := Nat.le_trans k4.out.size hg5.size
  clear hn5 hg5 hm5 T4 q4 k4
  have hrw := T5.out.rows t htl
  have hcl := T5.out.box.cell htl
  rw [EU.out] at hrw hcl
  have RW := Lib.hid hrw
  have hfz := T5.out.box.frozen t
  have hbz := T5.out.box.lt
  obtain ⟨d0, d1, d2, d3, d4, d5⟩ := VBox.at_ (v := ⟨(t : Int), text, bits, cls, name, desc⟩) q5.out
  dsimp only at d0 d1 d2 d3 d4 d5
  have hz : w.heap.size < x5.heap.size := (Array.getElem?_eq_some_iff.1 q5.out).1
  clear hrw
  have HSRC := Lib.hid (fun (y : World) (B : Nat) (hb : y.heap[B]? = some (.cells #[.int .i64 (t : Int), .string (bs text), .int .u64 bits, .string (bs cls), .string (bs name), .string (bs desc)] 36 (0, 0))) => (show Src Tryz.prog 6 22 (.slice (some ⟨B, 0, none⟩) 1 1) 1 (vc [v]) y from by
    rw [HE.out]
    exact src_val (v := ⟨(t : Int), text, bits, cls, name, desc⟩) hb 1))
  have FA := Lib.hid (show ∀ (v7 : Value) (x7 : World), VRow x7 base v7 (R t ++ [v]) → Hop (x5.drew.alloc (.cells #[.int .i64 (t : Int), .string (bs text), .int .u64 bits, .string (bs cls), .string (bs name), .string (bs desc)] 36)) x7 (Value.slice A (R t).length c).ownBlock v7.ownBlock →
      (x7.cell? ⟨b, t, none⟩ = some (.slice A (R t).length c) ∧ x7.frozen? ⟨b, t, none⟩ = false ∧ b < x7.heap.size ∧ x7.cell? ⟨w.heap.size, 0, none⟩ = some (.int .i64 (t : Int)) ∧ w.heap.size < x7.heap.size) ∧ ∃ A7 d7, v7 = .slice A7 ((R t).length + 1) d7 from fun v7 x7 hr7 hp7 => by
    have hx7 : Below x5.heap.size x5 (x5.drew.alloc (.cells #[.int .i64 (t : Int), .string (bs text), .int .u64 bits, .string (bs cls), .string (bs name), .string (bs desc)] 36)) := (Below.refl _ _).drew.alloc (Nat.le_refl _) _
    have hb7 : TBox x7 b us m := TBox.kept (T5.out.box.keep hx7 T5.out.box.lt) hp7.1 ((T5.out.box.keep hx7 T5.out.box.lt).apart (RW.out.grow hx7) rfl)
    have c7 := hb7.cell htl
    rw [EU.out] at c7
    have q7 := (hp7.1.block w.heap.size (by simp; omega) (fun e => by
      have h1 := HLT.out w.heap.size (by rw [EU.out]; exact e.symm)
      omega)).trans (VBox.keep (v := ⟨(t : Int), text, bits, cls, name, desc⟩) q5.out hx7 hz)
    obtain ⟨A7, d7, e7, _, _⟩ := hr7.reads
    rw [List.length_append] at e7
    exact ⟨⟨c7, hb7.frozen t, hb7.lt, (VBox.at_ (v := ⟨(t : Int), text, bits, cls, name, desc⟩) q7).1, (Array.getElem?_eq_some_iff.1 q7).1⟩, A7, d7, e7⟩)
  go_region_law ((refine step_appV rfl _ _ rfl base _ (R t) rfl (RW.out.grow (by (repeat (first | exact Below.refl _ _ | refine Below.drew ?_ | refine Below.alloc ?_ ?_ _)); (all_goals (first | omega | (simp; done) | (simp; omega))))) _ [v] rfl (HSRC.out _ _ (heap_alloc_new _ _)) (by simp; omega) (by first | exact k5.out.size | (have := k5.out.size; simp; omega)) ?_; intro v7 x7 hr7 hp7; obtain ⟨⟨c7, f7, z7, g0, gz⟩, A7, d7, e7⟩ := FA.out v7 x7 hr7 hp7; subst e7))
  all_goals
    have hx7 : Below x5.heap.size x5 (x5.drew.alloc (.cells #[.int .i64 (t : Int), .string (bs text), .int .u64 bits, .string (bs cls), .string (bs name), .string (bs desc)] 36)) := (Below.refl _ _).drew.alloc (Nat.le_refl _) _
    have hp8 := hp7
    rw [← EU.out] at hp8
    have TF := Lib.hid ((T5.out.grow hx7).put htl hr7 hp8)
    have BF := Lib.hid (show Below base w (x7.setCell ⟨b, t, none⟩ (.slice A7 ((R t).length + 1) d7)) from ((k5.out.trans (hx7.mono (Nat.le_trans hwb k5.out.size))).trans (hp7.below (Nat.le_trans (Nat.le_trans hwb k5.out.size) hx7.size) (fun k hk => RW.out.base_le hk))).setCell (p := ⟨b, t, none⟩) T5.out.hb _)
    have FR := Lib.hid (show ∀ k, k < w.heap.size → k ≠ b → k ≠ m → (us t).ownBlock ≠ some k → (x7.setCell ⟨b, t, none⟩ (.slice A7 ((R t).length + 1) d7)).heap[k]? = w.heap[k]? from fun k hk hkb hkm hku => by
      have hb7 : TBox x7 b us m := TBox.kept (T5.out.box.keep hx7 T5.out.box.lt) hp7.1 ((T5.out.box.keep hx7 T5.out.box.lt).apart (RW.out.grow hx7) rfl)
      have h1 : k < x5.heap.size := Nat.lt_of_lt_of_le hk hw5
      have h2 := Nat.lt_of_lt_of_le h1 hx7.size
      refine ((hb7.turned t _).block k (Nat.lt_of_lt_of_le h2 hp7.1.size) (fun e => hkb (Option.some.inj e))).trans ((hp7.1.block k h2 (fun e => hku (by rw [EU.out]; exact e.symm))).trans ((hx7.block k h1).trans (H5.out k hk hkm)))
      )
    have NU := Lib.hid (show ∀ s k, ((fun s => if s = t then Value.slice A7 ((R t).length + 1) d7 else us s) s).ownBlock = some k → (us s).ownBlock = some k ∨ w.heap.size ≤ k from fun s k hk => by
      dsimp only at hk
      by_cases e : s = t
      · subst e
        rw [if_pos rfl] at hk
        rcases hp8.2 with h2 | ⟨q, hq, h2⟩
        · exact .inl (h2 ▸ hk)
        · rw [h2] at hk
          cases hk
          exact .inr (Nat.le_trans hw5 (Nat.le_trans hx7.size hq))
      · rw [if_neg e] at hk
        exact .inl hk)
    clear hx7 hp8 hr7 hp7 FA HSRC c7 f7 z7 g0 gz d0 d1 d2 d3 d4 d5 hz hbz hfz hcl
    go_wp2_with fail
    go_end0
    exact ⟨rfl, ⟨_, TF.out, NU.out⟩, FR.out, BF.out⟩
/-- A value more. -/
theorem add_any (base b m n t : Nat) (us : Nat → Value) (R : Nat → List Pv) (f : Pv → Int) (S : Pv → Bool) (v : Pv) (w : World) (h : TabS w base b m n us R f S) (hv : v.fits) (ht : v.tag = (t : Int)) (ht2 : 1 ≤ t ∧ t ≤ 12) (hn : n ≤ 1000000) (hl : (R t).length ≤ 1000000) :
    Calls Tryz.prog 27 #[.pointer (some ⟨b, 0, none⟩), vv v] w fun e w' => e = .returned (.tuple #[]) ∧ (∃ us', TabS w' base b m (n + 1) us' (fun k => if k = t then R t ++ [v] else R k) (fun u => if u = v then ((R t).length : Int) else f u) (fun u => decide (u = v) || S u) ∧ ∀ s k, (us' s).ownBlock = some k → (us s).ownBlock = some k ∨ w.heap.size ≤ k) ∧ (∀ k, k < w.heap.size → k ≠ b → k ≠ m → (us t).ownBlock ≠ some k → w'.heap[k]? = w.heap[k]?) ∧ Below base w w' := by
  have h1 := add_aux base b m n t us R f S v.text v.bits v.cls v.name v.desc v (by rw [← ht]) w h hv ht2 hn hl
  unfold vv
  rw [ht]
  exact h1
end Go.Proofs.YtkdamaomhppkgaaGreat

/- The walk of layer 28: the values of a tag are read. -/
namespace Go.Proofs.YtkdamaomhppkgaaGreat
open Go.RowKit Go.Maps Pp

theorem last_le (t : Int) : lastT t ≤ 2 ∧ firstT t ≤ lastT t := by
  unfold lastT firstT
  split <;> split <;> omega
set_option maxHeartbeats 8000000 in
set_option maxRecDepth 100000 in
theorem row8_any (base b m n b2 t : Nat) (us : Nat → Value) (T : List Pv) (A : Option Addr) (c : Nat) (l : List UInt8) (p : Nat) (k : Int) (w : World) (hC : CurS w b2 A c l p 0) (hT : TabOf w base b m n us T) (hL : CurLow base b2 A l)
    (hnd : T.Nodup) (hok : ∀ v ∈ T, v.chk 0 9 5 = 0) (hft : ∀ v ∈ T, v.fits) (ht : readT (t : Int)) (h0 : Pv.row T (t : Int) = []) (hk : I64 k) (hl : l.length ≤ 100000) (hTl : T.length ≤ 200000) (hn : n ≤ T.length) :
    Calls Tryz.prog 35 #[.pointer (some ⟨b, 0, none⟩), .pointer (some ⟨b2, 0, none⟩), .int .i64 t, .int .i64 k] w (RowR8 us base b m b2 A c l t k T p w) := by
  have HTb := Lib.hid hT
  have HL := Lib.hid hL
  have hbw : base ≤ w.heap.size := Nat.le_trans hT.hb (Nat.le_of_lt hT.box.lt)
  have HHB := Lib.hid (show b < w.heap.size ∧ m < w.heap.size ∧ ∀ s j, s < 13 → (us s).ownBlock = some j → j < w.heap.size from ⟨hT.box.lt, hT.num.lt, fun s j hs hj => (World.ownsRow.lt (hT.rows s hs) j hj).2⟩)
  have k0 := (Below.refl w.heap.size w).alloc (Nat.le_refl _) (.cells #[.slice none 0 0, .slice none 0 0] 72)
  have T0 := Lib.hid (hT.grow k0)
  have C0 := Lib.hid (hC.grow k0)
  have B0 := Lib.hid (show But w.heap.size b2 w (w.alloc (.cells #[.slice none 0 0, .slice none 0 0] 72)) from But.of k0 (Nat.le_refl _))
  have G0 := Lib.hid (heap_alloc_new w (.cells #[.slice none 0 0, .slice none 0 0] 72))
  have hsz0 : (w.alloc (.cells #[.slice none 0 0, .slice none 0 0] 72)).heap.size = w.heap.size + 1 := by simp
  have HLT := Lib.hid (last_le (t : Int))
  have HFI := Lib.hid (fun w => tfirst_any (t : Int) w)
  have HLA := Lib.hid (fun w => tlast_any (t : Int) w)
  have HND := Lib.hid hnd
  have HOK := Lib.hid hok
  have HFT := Lib.hid hft
  have HRT := Lib.hid ht
  have H00 := Lib.hid h0
  clear k0 hT hC hL hnd hok hft ht h0
  go_enter Tryz.func35, Tryz.ntmps35
  go_wp2_with fail
  generalize w.alloc (.cells #[.slice none 0 0, .slice none 0 0] 72) = W at *
  refine (HFI.out W).mono ?_
  rintro e z ⟨rfl, rfl⟩
  go_wp2_with fail
  go_loopw [9] (fun u wr => ∃ (i : Nat) (va vb : Value) (la lb : List Int) (q : Nat) (e : Int), u = .int .i64 i ∧ i ≤ lastT (t : Int) ∧ ColSt (t : Int) k l p i va vb la lb q e ∧ wr.heap[w.heap.size]? = some (.cells #[va, vb] 72 (0, 0)) ∧ IRead wr (w.heap.size + 1) va la ∧ IRead wr (w.heap.size + 1) vb lb ∧ TabOf wr base b m n us T ∧ CurS wr b2 A c l q e ∧ But w.heap.size b2 w wr ∧ w.heap.size + 1 ≤ wr.heap.size) (fun u _ => 3 - (intOf u).toNat)
  case atStart => exact ⟨firstT (t : Int), .slice none 0 0, .slice none 0 0, [], [], p, 0, rfl, HLT.out.2, .inl ⟨rfl, rfl, rfl, rfl, rfl⟩, G0.out, IRead.of (IRow.nil _ _), IRead.of (IRow.nil _ _), T0.out, C0.out, B0.out, by omega⟩
  case round =>
    obtain ⟨i, va, vb, la, lb, q, e, rfl, hil, hcs, hbk, hra, hrb, hT, hC, hB, hsz⟩ := hrel
    have MS := Lib.hid hcs
    have MK := Lib.hid hbk
    have MA := Lib.hid hra
    have MBb := Lib.hid hrb
    have MT := Lib.hid hT
    have MC := Lib.hid hC
    have MB := Lib.hid hB
    clear hcs hbk hra hrb hT hC hB T0 C0 B0 G0
    go_wp2_with fail
    refine (HLA.out wr).mono ?_
    rintro e9 z ⟨rfl, ez⟩
    have ez := ez.symm
    subst ez
    by_cases h1 : i < lastT (t : Int)
    · have p1 : decide ((i : Int) < (lastT (t : Int) : Int)) = true := decide_eq_true (by omega)
      have p2 : decide (i < lastT (t : Int)) = true := decide_eq_true h1
      have HBR := Lib.hid (bread_any MC.out k hk hl)
      go_wp2_with fail
      refine HBR.out.mono ?_
      rintro ex z ⟨u, vs, q', e', rfl, hi5, hc5, ho5, hn5, hg5⟩
      have hlt5 : wr.heap.size ≤ z.heap.size := hg5.size
      have hL1 := HL.out.1
      have hT5 := MT.out.cur hg5 hL1
      have hbk5 := (hg5.block w.heap.size (by omega) (fun e => by have := Option.some.inj e; omega)).trans MK.out
      have ha5 := MA.out.cur hg5 (by omega)
      have hb5 := MBb.out.cur hg5 (by omega)
      have hB5 := MB.out.trans (But.grown hg5 (by omega))
      have hle := HLT.out.1
      obtain ⟨Au, cu, rfl, hIu, hAu⟩ := hi5
      have hAu2 : ∀ g o, Au = some ⟨g, o, none⟩ → w.heap.size + 1 ≤ g := fun g o e => by have := hAu g o e; omega
      have hzz : w.heap.size < z.heap.size := by omega
      have hcc := (blk_facts hbk5).1
      have hff := (blk_facts hbk5).2
      obtain rfl | rfl : i = 0 ∨ i = 1 := by omega
      · have hs5 := set_turned hbk5 0 (.slice Au vs.length cu)
        have NT := Lib.hid (TabS.off hT5 hs5 (by have := HHB.out.1; omega) (by have := HHB.out.2.1; omega) (fun s j hs hj => by have := HHB.out.2.2 s j hs hj; omega))
        have NC := Lib.hid (hc5.but HL.out ((Below.refl base z).setCell (p := ⟨w.heap.size, 0, none⟩) hbw (.slice Au vs.length cu)))
        have NB := Lib.hid (hB5.trans (But.of ((Below.refl w.heap.size z).setCell (p := ⟨w.heap.size, 0, none⟩) (Nat.le_refl _) (.slice Au vs.length cu)) (Nat.le_refl _)))
        have NK := Lib.hid (setCell_arr hbk5 (k := 0) (.slice Au vs.length cu) _ rfl)
        have NA := Lib.hid (IRead.cur (show IRead z (w.heap.size + 1) (.slice Au vs.length cu) vs from ⟨Au, cu, rfl, hIu, hAu2⟩) hs5 (Nat.lt_succ_self _))
        have NBb := Lib.hid (hb5.cur hs5 (Nat.lt_succ_self _))
        have NS := Lib.hid (ColSt.next0 (u := .slice Au vs.length cu) MS.out ho5)
        have d0 := hcc 0
        have f0 := hff 0
        clear hT5 hbk5 ha5 hb5 hB5 hs5 hcc hff hc5 hg5 ho5 hn5 hIu hAu hAu2 MS MK MA MBb MT MC MB HBR
        go_wp2_with fail
        go_roundw
        case rel => exact ⟨1, _, _, _, _, q', e', rfl, h1, NS.out, NK.out, NA.out, NBb.out, NT.out, NC.out, NB.out, by simp; omega⟩
        case measure => simp [intOf]
      · have hs5 := set_turned hbk5 1 (.slice Au vs.length cu)
        have NT := Lib.hid (TabS.off hT5 hs5 (by have := HHB.out.1; omega) (by have := HHB.out.2.1; omega) (fun s j hs hj => by have := HHB.out.2.2 s j hs hj; omega))
        have NC := Lib.hid (hc5.but HL.out ((Below.refl base z).setCell (p := ⟨w.heap.size, 1, none⟩) hbw (.slice Au vs.length cu)))
        have NB := Lib.hid (hB5.trans (But.of ((Below.refl w.heap.size z).setCell (p := ⟨w.heap.size, 1, none⟩) (Nat.le_refl _) (.slice Au vs.length cu)) (Nat.le_refl _)))
        have NK := Lib.hid (setCell_arr hbk5 (k := 1) (.slice Au vs.length cu) _ rfl)
        have NBb := Lib.hid (IRead.cur (show IRead z (w.heap.size + 1) (.slice Au vs.length cu) vs from ⟨Au, cu, rfl, hIu, hAu2⟩) hs5 (Nat.lt_succ_self _))
        have NA := Lib.hid (ha5.cur hs5 (Nat.lt_succ_self _))
        have NS := Lib.hid (ColSt.next1 (u := .slice Au vs.length cu) MS.out ho5 hn5)
        have d0 := hcc 1
        have f0 := hff 1
        clear hT5 hbk5 ha5 hb5 hB5 hs5 hcc hff hc5 hg5 ho5 hn5 hIu hAu hAu2 MS MK MA MBb MT MC MB HBR
        go_wp2_with fail
        go_roundw
        case rel => exact ⟨2, _, _, _, _, q', e', rfl, h1, NS.out, NK.out, NA.out, NBb.out, NT.out, NC.out, NB.out, by simp; omega⟩
        case measure => simp [intOf]
    · obtain rfl : i = lastT (t : Int) := by omega
      have p1 : decide ((lastT (t : Int) : Int) < (lastT (t : Int) : Int)) = false := decide_eq_false (by omega)
      have p2 : decide (lastT (t : Int) < lastT (t : Int)) = false := decide_eq_false (by omega)
      have HER := Lib.hid (cerr_any MC.out)
      go_wp2_with fail
      refine HER.out.mono ?_
      rintro e9 z ⟨rfl, ez⟩
      have ez := ez.symm
      subst ez
      have hbb2 : base ≤ wr.heap.size := by omega
      by_cases he : e = 0
      rotate_left
      · have qe : (e != 0) = true := by simpa using he
        have hfin := Lib.hid (rowR_err (T := T) (MS.out.err he))
        have HE := Lib.hid he
        clear he
        go_wp2_with fail
        go_end0
        exact ⟨rfl, q, e, MC.out, MB.out.less hbw, Fr.of MB.out, .inl ⟨HE.out, hfin.out⟩⟩
      · subst he
        obtain ⟨cs, hcs, hk0, hcl, hat⟩ := MS.out.ok MA.out MBb.out
        obtain ⟨N, rfl⟩ : ∃ N : Nat, k = (N : Int) := ⟨k.toNat, by omega⟩
        have hN : cs.length = N := by omega
        have hNl : N ≤ 100000 := by
          have := colsR_eat hcs
          rw [List.length_drop, List.length_drop] at this
          omega
        have HCS := Lib.hid hcs
        have HAT := Lib.hid hat
        have HNN := Lib.hid hN
        obtain ⟨wL, rfl⟩ : ∃ wL, wL = wr := ⟨_, rfl⟩
        obtain ⟨us0, rfl⟩ : ∃ us0, us0 = us := ⟨_, rfl⟩
        clear hcs hat hN hcl hk0 hk HER MS MA MBb
        go_wp2_with fail
        go_loopw [33] (fun u wr => ∃ (i : Nat) (acc : List Pv) (us : Nat → Value) (n : Nat) (p9 : Pv), u = .int .i64 i ∧ i ≤ N ∧ acc.length = i ∧ TabOf wr base b m n us (T ++ acc) ∧ n ≤ T.length + i ∧ (∀ v ∈ acc, v.tag = (t : Int) ∧ v.chk 0 9 5 = 0 ∧ v.fits) ∧ acc.Pairwise Pv.lt ∧ (0 < i → acc[i - 1]? = some p9) ∧ preG acc (rowGo T t (decide (i = 0)) p9 (cs.drop i)) = rowGo T t true Pv.zero cs ∧ (∀ s j, s < 13 → (us s).ownBlock = some j → (∃ s', s' < 13 ∧ (us0 s').ownBlock = some j) ∨ wL.heap.size ≤ j) ∧ CurS wr b2 A c l q 0 ∧ (But base b2 w wr ∧ Fr us0 b m b2 w wr) ∧ wL.heap.size ≤ wr.heap.size ∧ (∀ j, w.heap.size ≤ j → j < wL.heap.size → wr.heap[j]? = wL.heap[j]?)) (fun u _ => N - (intOf u).toNat)
        case atStart => exact ⟨0, [], us0, n, Pv.zero, rfl, Nat.zero_le _, rfl, by rw [List.append_nil]; exact MT.out, by omega, (fun v hv => by cases hv), List.Pairwise.nil, (fun h => by omega), by rw [preG_nil]; rfl, (fun s j hs hj => .inl ⟨s, hs, hj⟩), MC.out, ⟨MB.out.less hbw, Fr.of MB.out⟩, Nat.le_refl _, fun j _ _ => rfl⟩
        case round =>
          obtain ⟨i, acc, us2, n2, p9, rfl, hiN, hai, hT2, hn2, hacc, hpw, hp9, hrg, hus2, hC2, hB2, hsz2, hmid⟩ := hrel
          have MT2 := Lib.hid hT2
          have MC2 := Lib.hid hC2
          have MB2 := Lib.hid hB2
          have MACC := Lib.hid hacc
          have MPW := Lib.hid hpw
          have MP9 := Lib.hid hp9
          have MRG := Lib.hid hrg
          have MU2 := Lib.hid hus2
          have MMID := Lib.hid hmid
          have MAI := Lib.hid hai
          clear hT2 hC2 hB2 hacc hpw hp9 hrg hus2 hmid hai
          by_cases hi : i < N
          · have p1 : decide ((i : Int) < (N : Int)) = true := decide_eq_true (by omega)
            have p2 : decide (i < N) = true := decide_eq_true hi
            have hi2 : i < cs.length := by rw [HNN.out]; exact hi
            obtain ⟨⟨x1, x2⟩, hc2⟩ : ∃ c2, cs[i]? = some c2 := ⟨_, List.getElem?_eq_getElem hi2⟩
            obtain ⟨hca, hcb⟩ := HAT.out i _ hc2
            dsimp only at hca hcb
            have hmid1 := fun g (h1 : w.heap.size + 1 ≤ g) (h2 : g < wL.heap.size) => MMID.out g (by omega) h2
            have HRA := Lib.hid (fun z (hz : Below wr.drew.heap.size wr.drew z) => rat_grow _ va i x1 z ((hca.mid hsz2 hmid1).grow ((Below.refl wr.heap.size wr).drew.trans hz)))
            have HRB := Lib.hid (fun z (hz : Below wr.drew.heap.size wr.drew z) => rat_grow _ vb i x2 z ((hcb.mid hsz2 hmid1).grow ((Below.refl wr.heap.size wr).drew.trans hz)))
            have hbk2 := (MMID.out w.heap.size (Nat.le_refl _) (by omega)).trans MK.out
            have d0 := (blk_facts hbk2).1 0
            have d1 := (blk_facts hbk2).1 1
            have hgz : w.heap.size < wr.heap.size := by omega
            have hok2 : ∀ v ∈ T ++ acc, v.chk 0 9 5 = 0 := fun v hv => (List.mem_append.1 hv).elim (HOK.out v) (fun h => (MACC.out v h).2.1)
            have hft2 : ∀ v ∈ T ++ acc, v.fits := fun v hv => (List.mem_append.1 hv).elim (HFT.out v) (fun h => (MACC.out v h).2.2)
            have hmv : madeT T (t : Int) x1 x2 = if (madeV (T ++ acc) (t : Int) x1 x2).2 = true then some (madeV (T ++ acc) (t : Int) x1 x2).1 else none := by rw [← madeT_app (acc := acc) (fun v hv => (MACC.out v hv).1), madeV_made]
            have ht64 : I64 (t : Int) := by
              have := HRT.out
              unfold readT at this
              unfold I64
              omega
            have hvf := madeV_fits hft2 ht64 x1 x2
            have hmd := fun z (hz : Below wr.drew.heap.size wr.drew z) => made_any base b m n2 us2 (T ++ acc) t x1 x2 z (MT2.out.grow ((Below.refl wr.heap.size wr).drew.trans hz)) hok2
            obtain ⟨v, ev⟩ : ∃ v, (madeV (T ++ acc) (t : Int) x1 x2).1 = v := ⟨_, rfl⟩
            obtain ⟨okf, eo⟩ : ∃ okf, (madeV (T ++ acc) (t : Int) x1 x2).2 = okf := ⟨_, rfl⟩
            rw [ev, eo] at hmv
            rw [ev] at hvf
            have HMD := Lib.hid (fun z (hz : Below wr.drew.heap.size wr.drew z) => (show Calls Tryz.prog 64 #[.pointer (some ⟨b, 0, none⟩), .int .i64 t, .int .i64 x1, .int .i64 x2] z fun e w' => e = .returned (.tuple #[vv v, .bool okf]) ∧ Below z.heap.size z w' from by
              have h := hmd z hz
              rw [ev, eo] at h
              exact h))
            unfold vv at HMD
            have HMV := Lib.hid hmv
            have HVF := Lib.hid hvf
            have HC2 := Lib.hid hc2
            clear hca hcb hmid1 hbk2 hok2 hft2 hmv hvf hmd ev eo ht64 hc2 hi2
            go_upto_region 10 with fail
            have zc : w.heap.size < wr.drew.heap.size := hgz
            refine wp_region_ord 19 (by kernel_rfl) (by kernel_rfl) (fun _ _ d _ _ h => by cases d <;> exact h) ?_
            simp only [List.take_succ_cons, List.take_zero, List.drop_succ_cons, List.drop_zero]
            repeat (first | (refine wpLex_skip rfl ?_; simp only [Act.put, List.setIfInBounds_toArray, List.set_cons_zero, List.set_cons_succ]) | (refine wpLex_fix rfl ?_; intro F hF R hR hne K hK; go_big_quiet_op; first | (go_big_quiet_on; clear hne hR R hF F) | (apply Exists.intro; refine ⟨fun g => ?_, ?_⟩; (((first | (go_at_call 63; first | with_reducible exact GrE.call hR (HRA.out _ (GrE.below g)) | with_reducible exact GrE.call hR (HRB.out _ (GrE.below g))) | (go_at_call 64; exact GrE.call hR (HMD.out _ (GrE.below g))) | (rw [GrE.cell g _ _ zc]; go_simp; first | exact ⟨rfl, rfl⟩ | rfl)))); go_big_quiet_on; clear hne hR R hF F)) | (apply wpLex_blk rfl; (focus (intro x hx; go_simp; exact ⟨rfl, rfl⟩)); intro B hB; simp only [Act.put, blkVal, List.setIfInBounds_toArray, List.set_cons_zero, List.set_cons_succ]))
            refine wpLex_nil ?_
            intro w1 hw1
            have hB9 : w.heap.size < B := Nat.lt_of_lt_of_le zc hB
            have hbx := (Below.refl wr.heap.size wr).drew.trans hw1.below
            have QZ := Lib.hid (show VBox w1 B Pv.zero from (hw1.fact 12 _ _ (.inr ⟨rfl, rfl, rfl⟩)).2)
            have hb1 := Lib.hid hbx
            clear hbx hw1 HRA HRB HMD d0 d1 hgz zc
            obtain ⟨z0, z1, z2, z3, z4, z5⟩ := zero_cells QZ.out
            have f0 := (blk_facts QZ.out).2 0
            have f1 := (blk_facts QZ.out).2 1
            have f2 := (blk_facts QZ.out).2 2
            have f3 := (blk_facts QZ.out).2 3
            have f4 := (blk_facts QZ.out).2 4
            have f5 := (blk_facts QZ.out).2 5
            have hz8 := QZ.out.lt
            go_upto_region 11 with fail
            have RX := Lib.hid (vbox_store QZ.out v)
            have hbx := Lib.hid (below_store hb1.out hB v)
            unfold stored at RX hbx
            generalize ((((((w1.setCell ⟨B, 0, none⟩ (.int .i64 v.tag)).setCell ⟨B, 1, none⟩ (.string (bs v.text))).setCell ⟨B, 2, none⟩ (.int .u64 v.bits)).setCell ⟨B, 3, none⟩ (.string (bs v.cls))).setCell ⟨B, 4, none⟩ (.string (bs v.name))).setCell ⟨B, 5, none⟩ (.string (bs v.desc))) = W at *
            have NT := Lib.hid (MT2.out.grow hbx.out)
            have NC := Lib.hid (MC2.out.grow hbx.out)
            have NB := Lib.hid (And.intro (MB2.out.1.trans (But.of hbx.out (by omega))) (MB2.out.2.below hbx.out))
            have NM := Lib.hid (show ∀ j, w.heap.size ≤ j → j < wL.heap.size → W.heap[j]? = wL.heap[j]? from fun j h1 h2 => (hbx.out.block j (by omega)).trans (MMID.out j h1 h2))
            have hszW : wL.heap.size ≤ W.heap.size := Nat.le_trans hsz2 hbx.out.size
            have hmv := HMV.out
            clear z0 z1 z2 z3 z4 z5 f0 f1 f2 f3 f4 f5 hz8 QZ hb1 hbx MT2 MC2 MB2 MMID
            cases okf
            · have hm0 : madeT T (t : Int) x1 x2 = none := hmv
              have hfin := Lib.hid (rowR_bad HCS.out (MRG.out ▸ rg_none HC2.out hm0))
              clear hmv hm0
              go_upto_region 12 with fail
              have HF := Lib.hid (cfail_any 5 NC.out)
              go_wp2_with fail
              refine HF.out.mono ?_
              rintro ex z ⟨rfl, hc9, hg9⟩
              rw [show fe 0 5 = 5 from rfl] at hc9
              have HER := Lib.hid (cerr_any hc9)
              have HC9 := Lib.hid hc9
              have HB9 := Lib.hid (And.intro (NB.out.1.trans (But.grown hg9 (by omega))) (NB.out.2.cur hg9))
              clear hc9 hg9 HF
              go_wp2_with fail
              refine HER.out.mono ?_
              rintro ex z2 ⟨rfl, ez⟩
              have ez := ez.symm
              subst ez
              go_wp2_with fail
              go_end0
              exact ⟨rfl, q, 5, HC9.out, HB9.out.1, HB9.out.2, .inl ⟨by decide, hfin.out⟩⟩
            · have hm1 : madeT T (t : Int) x1 x2 = some v := hmv
              obtain ⟨hvt, hvc, _, _⟩ := made_facts HOK.out hm1 HRT.out (fun h => colsR_zero HCS.out h _ (List.mem_of_getElem? HC2.out))
              have HM1 := Lib.hid hm1
              have HVT := Lib.hid hvt
              have HVC := Lib.hid hvc
              clear hmv hm1 hvt hvc
              go_upto_region 13 with fail
              have hrow : Pv.row (T ++ acc) (t : Int) = acc := by rw [row_app, H00.out, List.nil_append, row_only (fun v hv => (MACC.out v hv).1), if_pos rfl]
              have ht13 : t < 13 := by
                have := HRT.out
                unfold readT at this
                omega
              obtain ⟨Ar, cr, eur, hVr, hAr9⟩ := (NT.out.rows t ht13).reads
              rw [hrow] at eur hVr
              rw [MAI.out] at eur
              have hcr := NT.out.box.cell ht13
              rw [eur] at hcr
              have hzb := NT.out.box.lt
              obtain ⟨c0, c1, c2, c3, c4, c5⟩ := RX.out.at_
              have hzx := RX.out.lt
              have HCM := Lib.hid (fun g : Gr W => Gr.call (g := g) (compare_any p9 v g.1))
              unfold vv at HCM
              have t1 : decide (t < 13) = true := decide_eq_true ht13
              have t2 : (t : Int) < 13 := by omega
              have hcase : (i = 0 ∨ (0 < i ∧ Pv.lt p9 v)) ∨ (0 < i ∧ ¬ Pv.lt p9 v) := by
                by_cases a1 : i = 0
                · exact .inl (.inl a1)
                · by_cases a2 : Pv.lt p9 v
                  · exact .inl (.inr ⟨by omega, a2⟩)
                  · exact .inr ⟨by omega, a2⟩
              have HVR := Lib.hid hVr
              clear eur hVr hrow hAr9
              rcases hcase with hgood | ⟨a1, a2⟩
              · have HGD := Lib.hid (show 0 < i → Pv.lt p9 v from fun h => by
                  rcases hgood with h2 | h2
                  · omega
                  · exact h2.2)
                have hq : (decide ((0 : Int) < (i : Int)) = false ∧ decide (0 < i) = false) ∨ (decide ((0 : Int) < (i : Int)) = true ∧ decide (0 < i) = true ∧ decide (0 ≤ cf p9 v) = false ∧ ∃ j, i = j + 1) := by
                  rcases hgood with h2 | ⟨h2, h3⟩
                  · exact .inl ⟨decide_eq_false (by omega), decide_eq_false (by omega)⟩
                  · exact .inr ⟨decide_eq_true (by omega), decide_eq_true h2, decide_eq_false (by have := (cf_lt p9 v).2 h3; omega), i - 1, by omega⟩
                clear hgood
                have HJ := Lib.hid (fun (j : Nat) (hj : i = j + 1) => (show ∃ gr orr, Ar = some ⟨gr, orr, none⟩ ∧ gr < W.heap.size ∧ VAt W gr (orr + j * 6) p9 from by
                  obtain ⟨gr, orr, v9, e9, hgr, hv9, hat9⟩ := HVR.out.at_ (i := j) (by rw [MAI.out]; omega)
                  have hv9' := MP9.out (by omega)
                  rw [show i - 1 = j by omega, hv9] at hv9'
                  cases hv9'
                  exact ⟨gr, orr, e9, hgr, hat9⟩))
                rcases hq with ⟨q1, q2⟩ | ⟨q1, q2, q3, j, hj⟩
                rotate_left
                obtain ⟨gr, orr, rfl, hgr, e0, e1, e2, e3, e4, e5⟩ := HJ.out j hj
                have ej : (i : Int) - 1 = (j : Int) := by omega
                have hji : j < i := by omega
                have hji2 : decide (j < i) = true := decide_eq_true hji
                have hji3 : (j : Int) < (i : Int) := by omega
                clear hj HJ
                generalize cf p9 v = cv at *
                rotate_right
                all_goals
                  refine wp_region_grow (by kernel_rfl) (by kernel_rfl) ?_
                  repeat (go_big_quiet_step ((go_at_call 26; with_reducible exact HCM.out _)))
                  refine wpQuiet_nil ?_
                  intro g1
                  obtain ⟨w1, hb1⟩ := g1
                  dsimp only
                  have NT2 := Lib.hid (NT.out.grow hb1)
                  have NC2 := Lib.hid (NC.out.grow hb1)
                  have NB2 := Lib.hid (And.intro (NB.out.1.trans (But.of hb1 (show base ≤ W.heap.size by omega))) (NB.out.2.below hb1))
                  have RX2 := Lib.hid (RX.out.keep hb1 RX.out.lt)
                  have NM2 := Lib.hid (show ∀ j, w.heap.size ≤ j → j < wL.heap.size → w1.heap[j]? = wL.heap[j]? from fun j h1 h2 => (hb1.block j (by omega)).trans (NM.out j h1 h2))
                  have hszW2 : wL.heap.size ≤ w1.heap.size := Nat.le_trans hszW hb1.size
                  have HER := Lib.hid (cerr_any NC2.out)
                  try clear e0 e1 e2 e3 e4 e5 hgr q3
                  clear hb1 c0 c1 c2 c3 c4 c5 hcr hzb hzx
                  go_wp2_with fail
                  refine HER.out.mono ?_
                  rintro ex z2 ⟨rfl, ez⟩
                  have ez := ez.symm
                  subst ez
                  obtain ⟨d0, d1, d2, d3, d4, d5⟩ := RX2.out.at_
                  have hzz := RX2.out.lt
                  have hrl : (Pv.row (T ++ acc) (t : Int)).length = i := by rw [row_app, H00.out, List.nil_append, row_only (fun v hv => (MACC.out v hv).1), if_pos rfl]; exact MAI.out
                  have ht12 : 1 ≤ t ∧ t ≤ 12 := by
                    have := HRT.out
                    unfold readT at this
                    omega
                  have HADD := Lib.hid (add_any base b m n2 t us2 (fun t => Pv.row (T ++ acc) t) (Pv.nums (T ++ acc) (T ++ acc).length) (fun v => decide (v ∈ T ++ acc)) v w1 NT2.out HVF.out HVT.out ht12 (by omega) (by show (Pv.row (T ++ acc) (t : Int)).length ≤ 1000000; rw [hrl]; omega))
                  unfold vv at HADD
                  clear hrl
                  go_wp2_with fail
                  refine HADD.out.mono ?_
                  rintro e x5 ⟨rfl, ⟨us3, hT3, hu3⟩, hfr, hb5⟩
                  have hsl := snoc_lt MPW.out MAI.out MP9.out HGD.out
                  have hnv : v ∉ T ++ acc := fun h => by
                    rcases List.mem_append.1 h with h | h
                    · have h9 := mem_row.2 ⟨h, HVT.out⟩
                      rw [H00.out] at h9
                      cases h9
                    · exact Pv.lin.irrefl v (hsl v h)
                  have N1 := Lib.hid (show TabOf x5 base b m (n2 + 1) us3 (T ++ (acc ++ [v])) from by rw [← List.append_assoc]; exact TabOf.next hnv HVT.out hT3)
                  have N2 := Lib.hid (show ∀ u ∈ acc ++ [v], u.tag = (t : Int) ∧ u.chk 0 9 5 = 0 ∧ u.fits from fun u hu => (List.mem_append.1 hu).elim (MACC.out u) (fun h => by rw [List.mem_singleton.1 h]; exact ⟨HVT.out, HVC.out, HVF.out⟩))
                  have N3 := Lib.hid (pairwise_snoc MPW.out hsl)
                  have N4 := Lib.hid (show (acc ++ [v])[i + 1 - 1]? = some v by rw [← MAI.out]; simp)
                  have N5 := Lib.hid (show preG (acc ++ [v]) (rowGo T (t : Int) (decide (i + 1 = 0)) v (cs.drop (i + 1))) = rowGo T (t : Int) true Pv.zero cs from by
                    rw [← MRG.out, ← rg_ok HC2.out HM1.out (fun h => h.2 (HGD.out (by have := of_decide_eq_false h.1; omega)))]
                    rfl)
                  have N6 := Lib.hid (show ∀ s j, s < 13 → (us3 s).ownBlock = some j → (∃ s', s' < 13 ∧ (us0 s').ownBlock = some j) ∨ wL.heap.size ≤ j from fun s j hs hj => (hu3 s j hj).elim (MU2.out s j hs) (fun h => .inr (by omega)))
                  have N7 := Lib.hid (NC2.out.but HL.out hb5)
                  have N8 := Lib.hid (show But base b2 w x5 ∧ Fr us0 b m b2 w x5 from ⟨NB2.out.1.trans (But.of hb5 (Nat.le_refl _)), ⟨Nat.le_trans NB2.out.2.1 hb5.size, fun j h1 h2 h3 h4 h5 => (hfr j (Nat.lt_of_lt_of_le h1 NB2.out.2.1) h2 h3 (fun e => by
                    rcases MU2.out t j (by omega) e with ⟨s', hs', h⟩ | h
                    · exact h5 s' hs' h
                    · omega)).trans (NB2.out.2.2 j h1 h2 h3 h4 h5)⟩⟩)
                  have N9 := Lib.hid (show ∀ j, w.heap.size ≤ j → j < wL.heap.size → x5.heap[j]? = wL.heap[j]? from fun j h1 h2 => (hfr j (by omega) (by have := HHB.out.1; omega) (by have := HHB.out.2.1; omega) (fun e => by
                    rcases MU2.out t j (by omega) e with ⟨s', hs', h⟩ | h
                    · have := HHB.out.2.2 s' j hs' h; omega
                    · omega)).trans (NM2.out j h1 h2))
                  have NS : wL.heap.size ≤ x5.heap.size := Nat.le_trans hszW2 hb5.size
                  have NL : (acc ++ [v]).length = i + 1 := by rw [List.length_append, MAI.out]; rfl
                  clear hT3 hu3 hfr hb5 hsl hnv d0 d1 d2 d3 d4 d5 hzz HADD
                  go_wp2_with fail
                  go_roundw
                  case rel => exact ⟨i + 1, acc ++ [v], us3, n2 + 1, v, by go_num, by omega, NL, N1.out, by omega, N2.out, N3.out, (fun _ => N4.out), N5.out, N6.out, N7.out, N8.out, NS, N9.out⟩
                  case measure => simp [intOf]; omega
              · have q1 : decide ((0 : Int) < (i : Int)) = true := decide_eq_true (by omega)
                have q2 : decide (0 < i) = true := decide_eq_true a1
                have q3 : decide (0 ≤ cf p9 v) = true := decide_eq_true (by have := mt (cf_lt p9 v).1 a2; omega)
                obtain ⟨j, hj⟩ : ∃ j, i = j + 1 := ⟨i - 1, by omega⟩
                obtain ⟨gr, orr, v9, rfl, hgr, hv9, e0, e1, e2, e3, e4, e5⟩ := HVR.out.at_ (i := j) (by rw [MAI.out]; omega)
                have hv9' := MP9.out a1
                rw [show i - 1 = j by omega, hv9] at hv9'
                cases hv9'
                have ej : (i : Int) - 1 = (j : Int) := by omega
                have hji : j < i := by omega
                have hji2 : decide (j < i) = true := decide_eq_true hji
                have hji3 : (j : Int) < (i : Int) := by omega
                have hfin := Lib.hid (rowR_bad HCS.out (MRG.out ▸ rg_low HC2.out HM1.out ⟨decide_eq_false (by omega), a2⟩))
                clear hv9 a1 a2 hj
                generalize cf p9 v = cv at *
                refine wp_region_grow (by kernel_rfl) (by kernel_rfl) ?_
                repeat (go_big_quiet_step ((go_at_call 26; with_reducible exact HCM.out _)))
                refine wpQuiet_nil ?_
                intro g1
                obtain ⟨w1, hb1⟩ := g1
                dsimp only
                have NC9 := NC.out.grow hb1
                have HF := Lib.hid (cfail_any 2 NC9)
                have HB8 := Lib.hid (And.intro (NB.out.1.trans (But.of hb1 (show base ≤ W.heap.size by omega))) (NB.out.2.below hb1))
                have hww : base ≤ w1.heap.size := by have := hb1.size; omega
                clear NC9 hb1
                go_wp2_with fail
                refine HF.out.mono ?_
                rintro ex z ⟨rfl, hc9, hg9⟩
                rw [show fe 0 2 = 2 from rfl] at hc9
                have HER := Lib.hid (cerr_any hc9)
                have HC9 := Lib.hid hc9
                have HB9 := Lib.hid (And.intro (HB8.out.1.trans (But.grown hg9 hww)) (HB8.out.2.cur hg9))
                clear hc9 hg9 HF HB8
                go_wp2_with fail
                refine HER.out.mono ?_
                rintro ex z2 ⟨rfl, ez⟩
                have ez := ez.symm
                subst ez
                go_wp2_with fail
                go_end0
                exact ⟨rfl, q, 2, HC9.out, HB9.out.1, HB9.out.2, .inl ⟨by decide, hfin.out⟩⟩
          · obtain rfl : i = N := by omega
            have p1 : decide ((i : Int) < (i : Int)) = false := decide_eq_false (by omega)
            have p2 : decide (i < i) = false := decide_eq_false (by omega)
            have hg := MRG.out
            rw [rg_end (by rw [HNN.out]; exact Nat.le_refl _)] at hg
            have hfin := Lib.hid (rowR_ok HCS.out hg.symm)
            have HFF := Lib.hid (show ∀ v ∈ T ++ acc, v.fits from fun v hv => (List.mem_append.1 hv).elim (HFT.out v) (fun h => (MACC.out v h).2.2))
            have HLL : n2 ≤ (T ++ acc).length := by rw [List.length_append, MAI.out]; exact hn2
            clear hg
            go_wp2_with fail
            go_end0
            exact ⟨rfl, q, 0, MC2.out, MB2.out.1, MB2.out.2, .inr ⟨rfl, acc, us2, n2, hfin.out, MT2.out, HLL, HFF.out, fun s j hs hj => (MU2.out s j hs hj).imp_right fun h => by omega⟩⟩
end Go.Proofs.YtkdamaomhppkgaaGreat

/- The walk of layer 28: the values of a tag, behind an error. -/
namespace Go.Proofs.YtkdamaomhppkgaaGreat
open Go.RowKit Go.Maps Pp

/-- What the call comes to. -/
def RowE8 (b2 : Nat) (A : Option Addr) (c : Nat) (l : List UInt8) (e : Int) (w : World) (ex : Ending) (w' : World) : Prop := ex = .returned (.tuple #[]) ∧ ∃ p', CurS w' b2 A c l p' e ∧ w.grownBy w' (some b2)
set_option maxHeartbeats 8000000 in
set_option maxRecDepth 100000 in
theorem row8_err (b b2 t : Nat) (A : Option Addr) (c : Nat) (l : List UInt8) (p : Nat) (k e : Int) (w : World) (hC : CurS w b2 A c l p e) (he : e ≠ 0) (hk : I64 k) (hl : l.length ≤ 100000) :
    Calls Tryz.prog 35 #[.pointer (some ⟨b, 0, none⟩), .pointer (some ⟨b2, 0, none⟩), .int .i64 t, .int .i64 k] w (RowE8 b2 A c l e w) := by
  have HL := Lib.hid (hC.low (Nat.le_refl _))
  have k0 := (Below.refl w.heap.size w).alloc (Nat.le_refl _) (.cells #[.slice none 0 0, .slice none 0 0] 72)
  have C0 := Lib.hid (hC.grow k0)
  have B0 := Lib.hid (show But w.heap.size b2 w (w.alloc (.cells #[.slice none 0 0, .slice none 0 0] 72)) from But.of k0 (Nat.le_refl _))
  have G0 := Lib.hid (heap_alloc_new w (.cells #[.slice none 0 0, .slice none 0 0] 72))
  have hsz0 : (w.alloc (.cells #[.slice none 0 0, .slice none 0 0] 72)).heap.size = w.heap.size + 1 := by simp
  have HLT := Lib.hid (last_le (t : Int))
  have HFI := Lib.hid (fun w => tfirst_any (t : Int) w)
  have HLA := Lib.hid (fun w => tlast_any (t : Int) w)
  have HE := Lib.hid he
  have qe : (e != 0) = true := by simpa using he
  clear k0 hC he
  go_enter Tryz.func35, Tryz.ntmps35
  go_wp2_with fail
  generalize w.alloc (.cells #[.slice none 0 0, .slice none 0 0] 72) = W at *
  refine (HFI.out W).mono ?_
  rintro e9 z ⟨rfl, rfl⟩
  go_wp2_with fail
  go_loopw [9] (fun u wr => ∃ (i : Nat) (va vb : Value) (q : Nat), u = .int .i64 i ∧ i ≤ lastT (t : Int) ∧ wr.heap[w.heap.size]? = some (.cells #[va, vb] 72 (0, 0)) ∧ CurS wr b2 A c l q e ∧ But w.heap.size b2 w wr ∧ w.heap.size + 1 ≤ wr.heap.size) (fun u _ => 3 - (intOf u).toNat)
  case atStart => exact ⟨firstT (t : Int), .slice none 0 0, .slice none 0 0, p, rfl, HLT.out.2, G0.out, C0.out, B0.out, by omega⟩
  case round =>
    obtain ⟨i, va, vb, q, rfl, hil, hbk, hC, hB, hsz⟩ := hrel
    have MK := Lib.hid hbk
    have MC := Lib.hid hC
    have MB := Lib.hid hB
    clear hbk hC hB C0 B0 G0
    go_wp2_with fail
    refine (HLA.out wr).mono ?_
    rintro e9 z ⟨rfl, ez⟩
    have ez := ez.symm
    subst ez
    by_cases h1 : i < lastT (t : Int)
    · have p1 : decide ((i : Int) < (lastT (t : Int) : Int)) = true := decide_eq_true (by omega)
      have p2 : decide (i < lastT (t : Int)) = true := decide_eq_true h1
      have HBR := Lib.hid (bread_any MC.out k hk hl)
      go_wp2_with fail
      refine HBR.out.mono ?_
      rintro ex z ⟨u, vs, q', e', rfl, hi5, hc5, _, hn5, hg5⟩
      obtain ⟨hvs9, rfl⟩ := hn5 HE.out
      clear hvs9 hn5
      have hlt5 : wr.heap.size ≤ z.heap.size := hg5.size
      have hL1 := HL.out.1
      have hbk5 := (hg5.block w.heap.size (by omega) (fun e => by have := Option.some.inj e; omega)).trans MK.out
      have hB5 := MB.out.trans (But.grown hg5 (by omega))
      have hle := HLT.out.1
      obtain ⟨Au, cu, rfl, hIu, hAu⟩ := hi5
      have hzz : w.heap.size < z.heap.size := by omega
      have hcc := (blk_facts hbk5).1
      have hff := (blk_facts hbk5).2
      obtain rfl | rfl : i = 0 ∨ i = 1 := by omega
      · have NC := Lib.hid (hc5.but HL.out ((Below.refl w.heap.size z).setCell (p := ⟨w.heap.size, 0, none⟩) (Nat.le_refl _) (.slice Au vs.length cu)))
        have NB := Lib.hid (hB5.trans (But.of ((Below.refl w.heap.size z).setCell (p := ⟨w.heap.size, 0, none⟩) (Nat.le_refl _) (.slice Au vs.length cu)) (Nat.le_refl _)))
        have NK := Lib.hid (setCell_arr hbk5 (k := 0) (.slice Au vs.length cu) _ rfl)
        have d0 := hcc 0
        have f0 := hff 0
        clear hbk5 hB5 hcc hff hc5 hg5 hIu hAu MK MC MB HBR
        go_wp2_with fail
        go_roundw
        case rel => exact ⟨1, _, _, q', rfl, h1, NK.out, NC.out, NB.out, by simp; omega⟩
        case measure => simp [intOf]
      · have NC := Lib.hid (hc5.but HL.out ((Below.refl w.heap.size z).setCell (p := ⟨w.heap.size, 1, none⟩) (Nat.le_refl _) (.slice Au vs.length cu)))
        have NB := Lib.hid (hB5.trans (But.of ((Below.refl w.heap.size z).setCell (p := ⟨w.heap.size, 1, none⟩) (Nat.le_refl _) (.slice Au vs.length cu)) (Nat.le_refl _)))
        have NK := Lib.hid (setCell_arr hbk5 (k := 1) (.slice Au vs.length cu) _ rfl)
        have d0 := hcc 1
        have f0 := hff 1
        clear hbk5 hB5 hcc hff hc5 hg5 hIu hAu MK MC MB HBR
        go_wp2_with fail
        go_roundw
        case rel => exact ⟨2, _, _, q', rfl, h1, NK.out, NC.out, NB.out, by simp; omega⟩
        case measure => simp [intOf]
    · obtain rfl : i = lastT (t : Int) := by omega
      have p1 : decide ((lastT (t : Int) : Int) < (lastT (t : Int) : Int)) = false := decide_eq_false (by omega)
      have p2 : decide (lastT (t : Int) < lastT (t : Int)) = false := decide_eq_false (by omega)
      have HER := Lib.hid (cerr_any MC.out)
      go_wp2_with fail
      refine HER.out.mono ?_
      rintro e9 z ⟨rfl, ez⟩
      have ez := ez.symm
      subst ez
      go_wp2_with fail
      go_end0
      exact ⟨rfl, q, MC.out, MB.out.grownBy (Nat.le_refl _)⟩
end Go.Proofs.YtkdamaomhppkgaaGreat

/- The walk of layer 27: texts are read. -/
namespace Go.Proofs.YtkdamaomhppkgaaGreat
open Go.RowKit Pp

/-- What the call comes to. -/
def WRes (b : Nat) (A : Option Addr) (cc : Nat) (l : List UInt8) (n : Nat) (most : Int) (x : World) (ex : Ending) (y : World) : Prop :=
  ∃ (u : Value) (vs : List (List UInt8)) (m : Nat) (e' : Int), ex = .returned u ∧ TRow y x.heap.size u vs ∧ CurS y b A cc l m e' ∧ Outc (wordsR most (l.drop n)) [] vs e' (l.drop m) ∧ x.grownBy y (some b)
theorem wres_err {b : Nat} {A : Option Addr} {cc : Nat} {l : List UInt8} {n m : Nat} {most e' : Int} {x y : World} (h : wordsR most (l.drop n) = .error e') (he : e' ≠ 0) (hc : CurS y b A cc l m e') (hg : x.grownBy y (some b)) : WRes b A cc l n most x (.returned (.slice none 0 0)) y :=
  ⟨_, [], m, e', rfl, TRow.nil _ _, hc, outc_error h he, hg⟩
theorem words_most {most : Int} (h : most < 0 ∨ 16777216 < most) (r : List UInt8) : wordsR most r = .error 1 := by unfold wordsR; rw [if_pos h]
theorem words_e1 {most : Int} (hm : ¬ (most < 0 ∨ 16777216 < most)) {r : List UInt8} {e : Int} (h : bandN 1 r = .error e) : wordsR most r = .error e := by
  unfold wordsR
  rw [if_neg hm, show bandR 1 r = .error e from h]
theorem words_e2 {most : Int} (hm : ¬ (most < 0 ∨ 16777216 < most)) {r r0 : List UInt8} {k : List Int} {e : Int} (h1 : bandN 1 r = .ok (k, r0)) (h : bandN (k.getD 0 0) r0 = .error e) : wordsR most r = .error e := by
  unfold wordsR
  rw [if_neg hm, show bandR 1 r = .ok (k, r0) from h1]
  dsimp only
  rw [h]
theorem words_e3 {most : Int} (hm : ¬ (most < 0 ∨ 16777216 < most)) {r r0 r1 : List UInt8} {k ns : List Int} {e : Int} (h1 : bandN 1 r = .ok (k, r0)) (h2 : bandN (k.getD 0 0) r0 = .ok (ns, r1)) (h : bandN (k.getD 0 0) r1 = .error e) : wordsR most r = .error e := by
  unfold wordsR
  rw [if_neg hm, show bandR 1 r = .ok (k, r0) from h1]
  dsimp only
  rw [h2]
  dsimp only
  rw [h]
theorem words_go {most : Int} (hm : ¬ (most < 0 ∨ 16777216 < most)) {r r0 r1 r2 : List UInt8} {k ns ms : List Int} (h1 : bandN 1 r = .ok (k, r0)) (h2 : bandN (k.getD 0 0) r0 = .ok (ns, r1)) (h3 : bandN (k.getD 0 0) r1 = .ok (ms, r2)) : wordsR most r = wGo most true [] 0 ns ms r2 := wordsR_eq hm (show bandR 1 r = .ok (k, r0) from h1) h2 h3
section
variable {x : World} {b : Nat} {A : Option Addr} {cc : Nat} {l : List UInt8} {n : Nat}
set_option maxHeartbeats 16000000 in
set_option maxRecDepth 100000 in
theorem wread_any (h : CurS x b A cc l n 0) (most : Int) (hk : I64 most) (hl : l.length ≤ 100000) :
    Calls Tryz.prog 33 #[.pointer (some ⟨b, 0, none⟩), .int .i64 most] x (WRes b A cc l n most x) := by
  have H0 := Lib.hid h
  unfold I64 at hk
  by_cases hr : most < 0 ∨ 16777216 < most
  · have HF := Lib.hid (cfail_any 1 h)
    have hfin := Lib.hid (words_most hr (l.drop n))
    have hcase : decide (most < 0) = true ∨ (decide (most < 0) = false ∧ decide (16777216 < most) = true) := by
      rcases hr with h | h
      · exact .inl (decide_eq_true h)
      · exact .inr ⟨decide_eq_false (by omega), decide_eq_true h⟩
    clear hr h
    rcases hcase with q1 | ⟨q1, q2⟩
    all_goals
      go_enter Tryz.func33, Tryz.ntmps33
      go_wp2_with fail
      refine HF.out.mono ?_
      rintro ex y ⟨rfl, hc1, hg1⟩
      have HBb := Lib.hid (bread_any hc1 1 (by unfold I64; omega) hl)
      have HG := Lib.hid hg1
      clear hc1 hg1 HF
      go_wp2_with fail
      refine HBb.out.mono ?_
      rintro ex y1 ⟨u1, ks, m1, e1, rfl, _, hc1, _, hn1, hg1⟩
      obtain ⟨_, he1⟩ := hn1 (by decide)
      have he2 : e1 = 1 := he1
      subst he2
      have HE := Lib.hid (cerr_any hc1)
      have HC := Lib.hid hc1
      have HG2 := Lib.hid (grownBy_trans HG.out hg1 (.inl rfl))
      clear hc1 hg1 hn1 he1 HBb
      go_wp2_with fail
      refine HE.out.mono ?_
      rintro ex z ⟨rfl, ez⟩
      have ez := ez.symm
      subst ez
      go_wp2_with fail
      go_ret
      exact wres_err hfin.out (by decide) HC.out HG2.out
  · have q1 : decide (most < 0) = false := decide_eq_false (by omega)
    have q2 : decide (16777216 < most) = false := decide_eq_false (by omega)
    have HM := Lib.hid hr
    have hm0 : 0 ≤ most := by omega
    have hm1 : most ≤ 16777216 := by omega
    have HB1 := Lib.hid (bread_any h 1 (by unfold I64; omega) hl)
    have hbx := h.lt
    clear hr h
    go_enter Tryz.func33, Tryz.ntmps33
    go_wp2_with fail
    refine HB1.out.mono ?_
    rintro ex y1 ⟨u1, ks, m1, e1, rfl, hr1, hc1, ho1, _, hg1⟩
    obtain ⟨A1, c1, rfl, hi1, hf1⟩ := hr1
    have HE := Lib.hid (cerr_any hc1)
    have HC1 := Lib.hid hc1
    have HG1 := Lib.hid hg1
    have HO1 := Lib.hid (ho1 rfl)
    have HI1 := Lib.hid hi1
    have HF1 := Lib.hid hf1
    clear hc1 hg1 ho1 hi1 hf1 HB1
    go_wp2_with fail
    refine HE.out.mono ?_
    rintro ex z ⟨rfl, ez⟩
    have ez := ez.symm
    subst ez
    clear HE
    by_cases he1 : e1 = 0
    rotate_left
    · have q3 : (e1 != 0) = true := by simpa using he1
      have hfin := Lib.hid (words_e1 HM.out (outc_err HO1.out he1).1)
      have HN := Lib.hid he1
      clear he1
      go_wp2_with fail
      go_ret
      exact wres_err hfin.out HN.out HC1.out HG1.out
    · subst he1
      obtain ⟨hb1, _, hkl, _, hkin⟩ := outc_band HO1.out
      have hkl1 : ks.length = 1 := by omega
      obtain ⟨k, rfl⟩ : ∃ k, ks = [k] := by
        match ks, hkl1 with
        | [k], _ => exact ⟨k, rfl⟩
      have hkk := hkin k (by simp)
      have HK := Lib.hid (show [k].getD 0 0 = k from rfl)
      have HBB := Lib.hid hb1
      obtain ⟨g1, o1, k', rfl, hgs, hk0, hcell⟩ := HI1.out.at_ (i := 0) (by simp)
      simp at hk0
      subst hk0
      rw [Nat.add_zero] at hcell
      have hcp := HI1.out.1
      have HB2 := Lib.hid (bread_any HC1.out k (by unfold I64; omega) hl)
      have hg1b : some g1 ≠ some b := fun e => by
        have := HF1.out g1 o1 rfl
        injection e with e
        omega
      have HKC := Lib.hid (fun z (hz : y1.grownBy z (some b)) => (show Ints z (some ⟨g1, o1, none⟩) c1 [k] from HI1.out.kept hz (fun g o' e => by cases e; exact hg1b)))
      have hbz := HG1.out.size
      clear hb1 hkl hkin hkl1 HO1
      go_wp2_with fail
      refine HB2.out.mono ?_
      rintro ex y2 ⟨u2, ns, m2, e2, rfl, hr2, hc2, ho2, _, hg2⟩
      obtain ⟨A2, c2, rfl, hi2, hf2⟩ := hr2
      have HB3 := Lib.hid (bread_any hc2 k (by unfold I64; omega) hl)
      obtain ⟨g1', o1', k', ee, hgs2, hk0, hcell2⟩ := (HKC.out y2 hg2).at_ (i := 0) (by simp)
      cases ee
      simp at hk0
      subst hk0
      rw [Nat.add_zero] at hcell2
      have HO2 := Lib.hid (ho2 rfl)
      have HG2 := Lib.hid hg2
      have HI2 := Lib.hid hi2
      have HF2 := Lib.hid (show ∀ g o, A2 = some ⟨g, o, none⟩ → x.heap.size ≤ g from fun g o e => Nat.le_trans hbz (hf2 g o e))
      clear hc2 ho2 hg2 hi2 hf2 HB2
      go_wp2_with fail
      refine HB3.out.mono ?_
      rintro ex y3 ⟨u3, ms, m3, e3, rfl, hr3, hc3, ho3, hn3, hg3⟩
      obtain ⟨A3, c3, rfl, hi3, hf3⟩ := hr3
      have HE := Lib.hid (cerr_any hc3)
      have HC3 := Lib.hid hc3
      have HO3 := Lib.hid ho3
      have HN3 := Lib.hid hn3
      have HG3 := Lib.hid (grownBy_trans HG1.out (grownBy_trans HG2.out hg3 (.inl rfl)) (.inl rfl))
      have HJ3 := Lib.hid hg3
      have HI3 := Lib.hid hi3
      have hbz2 := HG2.out.size
      have HF3 := Lib.hid (show ∀ g o, A3 = some ⟨g, o, none⟩ → x.heap.size ≤ g from fun g o e => Nat.le_trans hbz (Nat.le_trans hbz2 (hf3 g o e)))
      clear hc3 ho3 hn3 hg3 hi3 hf3 HB3
      go_wp2_with fail
      refine HE.out.mono ?_
      rintro ex z ⟨rfl, ez⟩
      have ez := ez.symm
      subst ez
      clear HE
      by_cases he3 : e3 = 0
      rotate_left
      · have q3 : (e3 != 0) = true := by simpa using he3
        have hfin : wordsR most (l.drop n) = .error e3 := by
          by_cases he2 : e2 = 0
          · subst he2
            exact words_e3 HM.out HBB.out (outc_band HO2.out).1 (outc_err (HO3.out rfl) he3).1
          · obtain ⟨_, rfl⟩ := HN3.out he2
            exact words_e2 HM.out HBB.out (outc_err HO2.out he3).1
        have HFN := Lib.hid hfin
        have HN := Lib.hid he3
        clear he3 hfin HN3 HO3 HO2
        go_wp2_with fail
        go_ret
        exact wres_err HFN.out HN.out HC3.out HG3.out
      · subst he3
        have he2 : e2 = 0 := by
          by_cases he2 : e2 = 0
          · exact he2
          · exact absurd (HN3.out he2).2.symm he2
        subst he2
        obtain ⟨hb2, hk9, hnl, hnl2, hnin⟩ := outc_band HO2.out
        obtain ⟨hb3, _, hml, hml2, hmin⟩ := outc_band (HO3.out rfl)
        have hlm : ms.length = ns.length := by omega
        have hns : ns.length ≤ 100000 := by rw [List.length_drop] at hnl2; omega
        have hOUT := words_go HM.out HBB.out hb2 hb3
        obtain ⟨OUT, hOUTd⟩ : ∃ OUT, OUT = wordsR most (l.drop n) := ⟨_, rfl⟩
        rw [← hOUTd] at hOUT
        have HOUT := Lib.hid hOUT
        have HOD := Lib.hid hOUTd
        have HNI := Lib.hid hnin
        have HMI := Lib.hid hmin
        have HLM := Lib.hid hlm
        have HJ2 := Lib.hid (HI2.out.kept HJ3.out (fun g o e e2 => by have := HF2.out g o e; injection e2 with e2; omega))
        obtain ⟨w4, hmk, htr, hbm, hms⟩ := make_texts y3 ns.length (by omega)
        have HTR := Lib.hid htr
        have HBM := Lib.hid hbm
        clear hb2 hk9 hnl hnl2 hnin hb3 hml hml2 hmin hOUT hOUTd hlm htr hbm HO2 HO3 HN3 HG2 HJ3 HI2 HBB HKC HI1 HF1 HC1 HG1
        have hy3 := HG3.out.size
        have HL2 := Lib.hid (show ∀ g o, A2 = some ⟨g, o, none⟩ → 0 < ns.length → g < y3.heap.size from fun g o e hp => by
          obtain ⟨g', o', e', hg', _⟩ := HJ2.out.2 hp
          rw [e] at e'
          cases e'
          exact hg')
        have HL3 := Lib.hid (show ∀ g o, A3 = some ⟨g, o, none⟩ → 0 < ns.length → g < y3.heap.size from fun g o e hp => by
          obtain ⟨g', o', e', hg', _⟩ := HI3.out.2 (by rw [HLM.out]; exact hp)
          rw [e] at e'
          cases e'
          exact hg')
        go_wp2_with fail
        go_loopw [8, 9, 10, 45] (fun v s t u wr => ∃ (i p : Nat) (acc : List (List UInt8)) (W : List UInt8) (S : Int), i ≤ ns.length ∧ u = .int .i64 i ∧ s = .string (bs W) ∧ t = .int .i64 S ∧ TRow wr y3.heap.size v acc ∧ CurS wr b A cc l p 0 ∧ W.length ≤ p ∧ 0 ≤ S ∧ S ≤ most ∧ acc.length = i ∧ preW acc (wGo most (decide (i = 0)) W S (ns.drop i) (ms.drop i) (l.drop p)) = OUT ∧ Ints wr A2 c2 ns ∧ Ints wr A3 c3 ms ∧ y3.heap.size ≤ wr.heap.size ∧ x.grownBy wr (some b)) (fun _ _ _ u _ => ns.length - (intOf u).toNat)
        case atStart => exact ⟨0, m3, [], [], 0, Nat.zero_le _, rfl, rfl, rfl, HTR.out, HC3.out.grow HBM.out, Nat.zero_le _, by omega, by omega, rfl, by rw [preW_nil]; exact HOUT.out.symm, HJ2.out.grow HBM.out, HI3.out.grow HBM.out, HBM.out.size, grownBy_trans HG3.out (grownBy_below HBM.out none) (.inr fun g e => by cases e)⟩
        case round =>
          obtain ⟨i, p, acc, W, S, hi, rfl, rfl, rfl, htr, hc, hWp, hS0, hSm, hacc, hgo, hj2, hj3, hys, hg⟩ := hrel
          have HT := Lib.hid htr
          have HC := Lib.hid hc
          have HGO := Lib.hid hgo
          have HP2 := Lib.hid hj2
          have HP3 := Lib.hid hj3
          have HG := Lib.hid hg
          have hpl := hc.le
          have HACC := Lib.hid hacc
          have hacc9 : acc.length ≤ 1000000 := by omega
          clear htr hgo hj2 hj3 hg hacc HTR HC3 HJ2 HI3 HBM HG3
          by_cases h1 : i < ns.length
          · obtain ⟨ga, oa, nn, eA, hga, hni, hcn⟩ := HP2.out.at_ h1
            obtain ⟨gb, ob, mm, eB, hgb, hmi, hcm⟩ := HP3.out.at_ (i := i) (by rw [HLM.out]; exact h1)
            subst eA
            subst eB
            have hnb := HNI.out nn (List.mem_of_getElem? hni)
            have hmb := HMI.out mm (List.mem_of_getElem? hmi)
            have hca := HP2.out.1
            have hcb := HP3.out.1
            rw [HLM.out] at hcb
            have p1 : decide ((i : Int) < (ns.length : Int)) = true := decide_eq_true (by omega)
            have hgo2 := HGO.out
            rw [drop_atW hni, drop_atW hmi] at hgo2
            have hsz := bs_size W
            have hms3 : i < ms.length := by rw [HLM.out]; exact h1
            by_cases hbad : nn < 0 ∨ (W.length : Int) < nn ∨ mm < 0
            · have hfin := Lib.hid (show wordsR most (l.drop n) = .error 2 by rw [← HOD.out, ← hgo2, wgo_bad hbad]; rfl)
              have HF := Lib.hid (cfail_any 2 hc)
              have hcase : decide (nn < 0) = true ∨ (decide (nn < 0) = false ∧ decide ((W.length : Int) < nn) = true) ∨ (decide (nn < 0) = false ∧ decide ((W.length : Int) < nn) = false ∧ decide (mm < 0) = true) := by
                by_cases a1 : nn < 0
                · exact .inl (decide_eq_true a1)
                · by_cases a2 : (W.length : Int) < nn
                  · exact .inr (.inl ⟨decide_eq_false a1, decide_eq_true a2⟩)
                  · exact .inr (.inr ⟨decide_eq_false a1, decide_eq_false a2, decide_eq_true (by omega)⟩)
              clear hbad hc hgo2 hni hmi
              rcases hcase with q1 | ⟨q1, q2⟩ | ⟨q1, q2, q3⟩
              all_goals
                go_wp2_with fail
                refine HF.out.mono ?_
                rintro ex z ⟨rfl, hc2, hg2⟩
                have HC2 := Lib.hid hc2
                have HG2 := Lib.hid (grownBy_trans HG.out hg2 (.inl rfl))
                clear hc2 hg2 HF
                go_wp2_with fail
                go_ret
                exact wres_err hfin.out (by decide) HC2.out HG2.out
            · have HNB := Lib.hid hbad
              obtain ⟨nk, rfl⟩ : ∃ nk : Nat, nn = (nk : Int) := ⟨nn.toNat, by omega⟩
              obtain ⟨mk, rfl⟩ : ∃ mk : Nat, mm = (mk : Int) := ⟨mm.toNat, by omega⟩
              have hnW : nk ≤ W.length := by omega
              have hmk9 : mk < 4294967296 := by omega
              have q1 : decide ((nk : Int) < 0) = false := decide_eq_false (by omega)
              have q2 : decide ((W.length : Int) < (nk : Int)) = false := decide_eq_false (by omega)
              have q2' : decide (W.length < nk) = false := decide_eq_false (by omega)
              have q3 : decide ((mk : Int) < 0) = false := decide_eq_false (by omega)
              clear hbad hnb hmb
              by_cases hsum : most < S + ((nk : Int) + (mk : Int))
              · have hfin := Lib.hid (show wordsR most (l.drop n) = .error 3 by rw [← HOD.out, ← hgo2, wgo_most HNB.out hsum]; rfl)
                have HF := Lib.hid (cfail_any 3 hc)
                have q4 : decide (most < S + ((nk : Int) + (mk : Int))) = true := decide_eq_true hsum
                clear hsum hc hgo2 hni hmi
                go_wp2_with fail
                refine HF.out.mono ?_
                rintro ex z ⟨rfl, hc2, hg2⟩
                have HC2 := Lib.hid hc2
                have HG2 := Lib.hid (grownBy_trans HG.out hg2 (.inl rfl))
                clear hc2 hg2 HF
                go_wp2_with fail
                go_ret
                exact wres_err hfin.out (by decide) HC2.out HG2.out
              · have HSM := Lib.hid hsum
                have q4 : decide (most < S + ((nk : Int) + (mk : Int))) = false := decide_eq_false hsum
                have hsumle : S + ((nk : Int) + (mk : Int)) ≤ most := by omega
                have hto := fun w => wd_to W nk hnW w
                clear hsum hni hmi
                by_cases hend : l.length - p < mk
                · have HTk := Lib.hid (fun z (hz : Below wr.heap.size wr z) => ctake_end (hc.grow hz) hend)
                  have hfin := Lib.hid (show wordsR most (l.drop n) = .error 6 by rw [← HOD.out, ← hgo2, wgo_end HNB.out HSM.out (by rw [List.length_drop]; omega)]; rfl)
                  clear hc hgo2 hend
                  go_upto_region 22 with fail
                  go_cut [13] (fun s13 wx => (∃ q : List UInt8, s13 = .string (bs q)) ∧ CurS wx b A cc l p 6 ∧ wr.grownBy wx (some b))
                  case first =>
                    have hadd := fun w => wd_add (W.take nk) [] (by rw [List.length_take]; omega) (by simp) w
                    go_region_with (go_at_call 59; refine (HTk.out _ (Below.refl _ _).drew).mono ?_; rintro ex z ⟨⟨u, rfl, hr9⟩, hc9, hg9⟩; have hcv := BRow.string 23 9 5 Tryz.underlying23 Tryz.underlying5 Tryz.underlying9 hr9; clear hr9)
                    all_goals
                      have hg10 := grownBy_trans (grownBy_below (Below.refl wr.heap.size wr).drew (some b)) hg9 (.inl rfl)
                      have HC9 := Lib.hid hc9
                      have HG9 := Lib.hid hg10
                      clear hc9 hg9 hg10
                      go_wp2_with fail
                      go_meet
                      case rel => exact ⟨⟨_, rfl⟩, HC9.out, HG9.out⟩
                  case rest =>
                    obtain ⟨⟨q, rfl⟩, hc9, hg9⟩ := hcut
                    have HF := Lib.hid (cfail_any 2 hc9)
                    have HE := Lib.hid (cerr_any hc9)
                    have HC9 := Lib.hid hc9
                    have HG9 := Lib.hid (grownBy_trans HG.out hg9 (.inl rfl))
                    have hle := wd_leq W q
                    clear hc9 hg9 HTk hto
                    have hcase : (decide ((0 : Int) < (i : Int)) = false ∧ decide (0 < i) = false) ∨ ((decide ((0 : Int) < (i : Int)) = true ∧ decide (0 < i) = true) ∧ (W < q)) ∨ ((decide ((0 : Int) < (i : Int)) = true ∧ decide (0 < i) = true) ∧ ¬ (W < q)) := by
                      by_cases a1 : 0 < i
                      · by_cases a2 : W < q
                        · exact .inr (.inl ⟨⟨decide_eq_true (by omega), decide_eq_true a1⟩, a2⟩)
                        · exact .inr (.inr ⟨⟨decide_eq_true (by omega), decide_eq_true a1⟩, a2⟩)
                      · exact .inl ⟨decide_eq_false (by omega), decide_eq_false a1⟩
                    rcases hcase with ⟨a1, a1'⟩ | ⟨⟨a1, a1'⟩, a2⟩ | ⟨⟨a1, a1'⟩, a2⟩
                    · go_wp2_with fail
                      refine HE.out.mono ?_
                      rintro ex z ⟨rfl, ez⟩
                      have ez := ez.symm
                      subst ez
                      go_wp2_with fail
                      go_ret
                      exact wres_err hfin.out (by decide) HC9.out HG9.out
                    · rw [decide_eq_true a2] at hle
                      clear a2
                      go_wp2_with fail
                      refine HE.out.mono ?_
                      rintro ex z ⟨rfl, ez⟩
                      have ez := ez.symm
                      subst ez
                      go_wp2_with fail
                      go_ret
                      exact wres_err hfin.out (by decide) HC9.out HG9.out
                    · rw [decide_eq_false a2] at hle
                      clear a2
                      go_wp2_with fail
                      refine HF.out.mono ?_
                      rintro ex z ⟨rfl, hc10, hg10⟩
                      have HE2 := Lib.hid (cerr_any hc10)
                      have HC10 := Lib.hid hc10
                      have HG10 := Lib.hid (grownBy_trans HG9.out hg10 (.inl rfl))
                      clear hc10 hg10 HF
                      go_wp2_with fail
                      refine HE2.out.mono ?_
                      rintro ex z2 ⟨rfl, ez⟩
                      have ez := ez.symm
                      subst ez
                      rw [show fe 6 2 = 6 from rfl] at *
                      go_wp2_with fail
                      go_ret
                      exact wres_err hfin.out (by decide) HC10.out HG10.out
                · have hkp : p + mk ≤ l.length := by omega
                  have HTk := Lib.hid (fun z (hz : Below wr.heap.size wr z) => ctake_ok (hc.grow hz) hkp)
                  have hq2 : ((l.drop p).take mk).length = mk := by rw [List.length_take, List.length_drop]; omega
                  have hnw2 : (W.take nk).length = nk := by rw [List.length_take]; omega
                  have hlo := Lib.hid (fun (h4 : decide (i = 0) = false ∧ ¬ W < W.take (nk : Int).toNat ++ (l.drop p).take (mk : Int).toNat) => (show wordsR most (l.drop n) = .error 2 by rw [← HOD.out, ← hgo2, wgo_low HNB.out HSM.out (by rw [List.length_drop]; omega) h4]; rfl))
                  have hok := Lib.hid (fun (h4 : ¬ (decide (i = 0) = false ∧ ¬ W < W.take (nk : Int).toNat ++ (l.drop p).take (mk : Int).toNat)) => (show preW (acc ++ [W.take (nk : Int).toNat ++ (l.drop p).take (mk : Int).toNat]) (wGo most false (W.take (nk : Int).toNat ++ (l.drop p).take (mk : Int).toNat) (S + ((nk : Int) + (mk : Int))) (ns.drop (i + 1)) (ms.drop (i + 1)) ((l.drop p).drop (mk : Int).toNat)) = OUT from (wgo_ok acc HNB.out HSM.out (by rw [List.length_drop]; omega) h4).symm.trans hgo2))
                  simp only [Int.toNat_natCast, List.drop_drop] at hlo hok
                  clear hc hgo2 hend
                  obtain ⟨q2, hq2e⟩ : ∃ q2, q2 = (l.drop p).take mk := ⟨_, rfl⟩
                  obtain ⟨qw, hqwe⟩ : ∃ qw, qw = W.take nk := ⟨_, rfl⟩
                  rw [← hq2e] at hlo hok hq2 HTk
                  rw [← hqwe] at hlo hok hnw2 hto
                  go_upto_region 22 with fail
                  go_cut [13] (fun s13 wx => s13 = .string (bs (qw ++ q2)) ∧ CurS wx b A cc l (p + mk) 0 ∧ wr.grownBy wx (some b))
                  case first =>
                    have hadd := fun w => wd_add qw q2 (by omega) (by omega) w
                    clear hq2e hqwe hq2 hnw2
                    go_region_with (go_at_call 59; refine (HTk.out _ (Below.refl _ _).drew).mono ?_; rintro ex z ⟨⟨u, rfl, hr9⟩, hc9, hg9⟩; have hcv := BRow.string 23 9 5 Tryz.underlying23 Tryz.underlying5 Tryz.underlying9 hr9; clear hr9)
                    all_goals
                      have hg10 := grownBy_trans (grownBy_below (Below.refl wr.heap.size wr).drew (some b)) hg9 (.inl rfl)
                      have HC9 := Lib.hid hc9
                      have HG9 := Lib.hid hg10
                      clear hc9 hg9 hg10
                      go_wp2_with fail
                      go_meet
                      case rel => exact ⟨rfl, HC9.out, HG9.out⟩
                  case rest =>
                    obtain ⟨rfl, hc9, hg9⟩ := hcut
                    have HF := Lib.hid (cfail_any 2 hc9)
                    have HE := Lib.hid (cerr_any hc9)
                    have HC9 := Lib.hid hc9
                    have HG9 := Lib.hid (grownBy_trans HG.out hg9 (.inl rfl))
                    have HT9 := Lib.hid (HT.out.kept hg9 (fun k9 e9 e8 => by have := (World.ownsRow.lt HT.out k9 e9).1; injection e8 with e8; omega))
                    have HP29 := Lib.hid (HP2.out.kept hg9 (fun g o e e8 => by have := HF2.out g o e; injection e8 with e8; omega))
                    have HP39 := Lib.hid (HP3.out.kept hg9 (fun g o e e8 => by have := HF3.out g o e; injection e8 with e8; omega))
                    have hys9 : y3.heap.size ≤ wc.heap.size := Nat.le_trans hys hg9.size
                    have hql : (qw ++ q2).length = nk + mk := by rw [List.length_append, hq2, hnw2]
                    have HQL := Lib.hid hql
                    clear hc9 hg9 HTk hto hq2e hqwe hq2 hnw2 hql
                    generalize hqq : qw ++ q2 = q at *
                    clear hqq
                    have hle := wd_leq W q
                    have hcase : (decide ((0 : Int) < (i : Int)) = true ∧ decide (0 < i) = true ∧ (¬ W < q)) ∨ (((decide ((0 : Int) < (i : Int)) = true ∧ decide (0 < i) = true ∧ (W < q)) ∨ (decide ((0 : Int) < (i : Int)) = false ∧ decide (0 < i) = false)) ∧ ¬ (decide (i = 0) = false ∧ ¬ W < q)) := by
                      by_cases a1 : 0 < i
                      · by_cases a2 : W < q
                        · exact .inr ⟨.inl ⟨decide_eq_true (by omega), decide_eq_true a1, a2⟩, fun h => h.2 a2⟩
                        · exact .inl ⟨decide_eq_true (by omega), decide_eq_true a1, a2⟩
                      · exact .inr ⟨.inr ⟨decide_eq_false (by omega), decide_eq_false a1⟩, fun h => by have := of_decide_eq_false h.1; omega⟩
                    rcases hcase with ⟨a1, a1', a2⟩ | ⟨a12, a3⟩
                    · have hfin := Lib.hid (hlo.out ⟨decide_eq_false (by have := of_decide_eq_true a1'; omega), a2⟩)
                      rw [decide_eq_false a2] at hle
                      clear a2
                      go_wp2_with fail
                      refine HF.out.mono ?_
                      rintro ex z ⟨rfl, hc10, hg10⟩
                      have HE2 := Lib.hid (cerr_any hc10)
                      have HC10 := Lib.hid hc10
                      have HG10 := Lib.hid (grownBy_trans HG9.out hg10 (.inl rfl))
                      clear hc10 hg10 HF
                      unfold fe at *
                      rw [if_pos rfl] at *
                      go_wp2_with fail
                      refine HE2.out.mono ?_
                      rintro ex z2 ⟨rfl, ez⟩
                      have ez := ez.symm
                      subst ez
                      go_wp2_with fail
                      go_ret
                      exact wres_err hfin.out (by decide) HC10.out HG10.out
                    · have HN := Lib.hid (hok.out a3)
                      clear a3
                      rcases a12 with ⟨a1, a1', a2⟩ | ⟨a1, a1'⟩
                      all_goals
                        first | rw [decide_eq_true a2] at hle | skip
                        try clear a2
                        go_wp2_with fail
                        refine HE.out.mono ?_
                        rintro ex z2 ⟨rfl, ez⟩
                        have ez := ez.symm
                        subst ez
                        obtain ⟨At, ct, rfl, _⟩ := HT9.out.reads
                        have k1 := Lib.hid ((Below.refl wc.heap.size wc).alloc (Nat.le_refl _) (.cells #[.string (bs q)] 9))
                        have HT10 := Lib.hid (HT9.out.grow k1.out)
                        have hsz1 : (wc.alloc (.cells #[.string (bs q)] 9)).heap.size = wc.heap.size + 1 := by simp
                        have HAL := Lib.hid (heap_alloc_new wc (.cells #[.string (bs q)] 9))
                        go_upto_region 27 with fail
                        go_wp2_with (at_builtin; refine wpList_appS rfl _ _ rfl y3.heap.size (.slice At acc.length ct) acc rfl HT10.out wc.heap.size q 9 (0, 0) rfl HAL.out (by omega) (by omega) ?_; intro v6 w6 hr6 hp6; have HR6 := Lib.hid hr6; have HP6 := Lib.hid hp6; clear hr6 hp6)
                        have how : ∀ g, (Value.slice At acc.length ct).ownBlock = some g → y3.heap.size ≤ g := fun g e => (World.ownsRow.lt HT10.out g e).1
                        have c6 := H0.out.hop (HC9.out.grow k1.out) HP6.out.1 (fun g e => Nat.le_trans hy3 (how g e))
                        have g6 := (hop_grown (grownBy_trans HG9.out (grownBy_below k1.out (some b)) (.inl rfl)) HP6.out (.inr fun g e => Nat.le_trans hy3 (how g e))).1
                        have i26 := (HP29.out.grow k1.out).kept HP6.out.1 (fun g o e e8 => by have h8 := HL2.out g o e (by omega); have h9 := how g e8.symm; omega)
                        have i36 := (HP39.out.grow k1.out).kept HP6.out.1 (fun g o e e8 => by have h8 := HL3.out g o e (by omega); have h9 := how g e8.symm; omega)
                        have s6 : y3.heap.size ≤ w6.heap.size := by have h8 := HP6.out.1.size; omega
                        have n6 : preW (acc ++ [q]) (wGo most (decide (i + 1 = 0)) q (S + ((nk : Int) + (mk : Int))) (ns.drop (i + 1)) (ms.drop (i + 1)) (l.drop (p + mk))) = OUT := HN.out
                        have l6 : (acc ++ [q]).length = i + 1 := by rw [List.length_append, HACC.out]; rfl
                        have hq6 : q.length ≤ p + mk := by have := HQL.out; omega
                        go_roundw
                        case rel => exact ⟨i + 1, p + mk, acc ++ [q], q, S + ((nk : Int) + (mk : Int)), by omega, by go_num, rfl, rfl, HR6.out, c6, hq6, by omega, by omega, l6, n6, i26, i36, s6, g6⟩
                        case measure => simp [intOf]; omega
          · have hii : i = ns.length := by omega
            subst hii
            have p1 : decide ((ns.length : Int) < (ns.length : Int)) = false := decide_eq_false (by omega)
            have hgo2 := HGO.out
            rw [List.drop_length, wgo_nil] at hgo2
            have hfin := Lib.hid (show wordsR most (l.drop n) = .ok (acc, l.drop p) by rw [← HOD.out, ← hgo2]; simp [preW])
            clear hgo2 hi h1
            go_wp2_with fail
            go_ret
            exact ⟨_, acc, p, 0, rfl, World.ownsRow.mono HT.out hy3, hc, outc_ok hfin.out, HG.out⟩
end
end Go.Proofs.YtkdamaomhppkgaaGreat
