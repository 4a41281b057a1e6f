/- The walks of layer 28: an empty table; a value more. -/
import Derived.Test.YtekcfjfkbiciaaaTabA
import Derived.Test.YtekcfjfkbiciaaaPut
import Derived.BigRegion
namespace Go.Proofs.Ytekcfjfkbiciaaa
open Go.RowKit Go.Maps

set_option maxRecDepth 100000 in
theorem start_any (w : World) : Calls Try.prog 15 #[] w fun e w' => ∃ us, e = .returned (.pointer (some ⟨w.heap.size + 1, 0, none⟩)) ∧ TabS w' w.heap.size (w.heap.size + 1) w.heap.size 0 us (fun _ => []) (fun _ => 0) (fun _ => false) ∧ Below w.heap.size w w' := by
  have hmm := @run_makeMap Try.prog
  have k0 := (Below.refl w.heap.size w).alloc (Nat.le_refl _) (.map #[] 0)
  have k1 := Lib.hid (k0.alloc k0.size (.cells #[.slice none 0 0, .slice none 0 0, .slice none 0 0, .slice none 0 0, .slice none 0 0, .slice none 0 0, .slice none 0 0, .slice none 0 0, .slice none 0 0, .slice none 0 0, .slice none 0 0, .slice none 0 0, .slice none 0 0, .map (some w.heap.size)] 58))
  have T := Lib.hid (show TabS ((w.alloc (.map #[] 0)).alloc (.cells #[.slice none 0 0, .slice none 0 0, .slice none 0 0, .slice none 0 0, .slice none 0 0, .slice none 0 0, .slice none 0 0, .slice none 0 0, .slice none 0 0, .slice none 0 0, .slice none 0 0, .slice none 0 0, .slice none 0 0, .map (some w.heap.size)] 58)) w.heap.size (w.heap.size + 1) w.heap.size 0 (fun _ => .slice none 0 0) (fun _ => []) (fun _ => 0) (fun _ => false) from
    ⟨⟨_, heap_alloc2_new w (.map #[] 0) _, rfl, (fun t ht => by
      obtain rfl | rfl | rfl | rfl | rfl | rfl | rfl | rfl | rfl | rfl | rfl | rfl | rfl : t = 0 ∨ t = 1 ∨ t = 2 ∨ t = 3 ∨ t = 4 ∨ t = 5 ∨ t = 6 ∨ t = 7 ∨ t = 8 ∨ t = 9 ∨ t = 10 ∨ t = 11 ∨ t = 12 := by omega
      all_goals rfl), rfl⟩, fun t _ => VRow.nil _ _, (fun s t _ _ _ k hk => by cases hk), (VTab.made w).grow ((Below.refl _ _).alloc (Nat.le_refl _) _), by omega, Nat.le_refl _⟩)
  clear k0
  go_enter Try.func15, Try.ntmps15
  go_wp2
  go_ret
  exact ⟨_, rfl, T.out, k1.out⟩
set_option maxRecDepth 100000 in
set_option maxHeartbeats 4000000 in
theorem add_aux (base b m n t : Nat) (us : Nat → Value) (R : Nat → List Pv) (f : Pv → Int) (S : Pv → Bool) (text : List UInt8) (bits : Nat) (cls name desc : List UInt8) (v : Pv) (he : v = ⟨(t : Int), text, bits, cls, name, desc⟩) (w : World) (h : TabS w base b m n us R f S) (hv : v.fits) (ht2 : 1 ≤ t ∧ t ≤ 12) (hn : n ≤ 1000000) (hl : (R t).length ≤ 1000000) :
    Calls Try.prog 19 #[.pointer (some ⟨b, 0, none⟩), .agg #[.int .i64 t, .string (bs text), .int .u64 bits, .string (bs cls), .string (bs name), .string (bs desc)]] w fun e w' => e = .returned (.tuple #[]) ∧ (∃ us', TabS w' base b m (n + 1) us' (fun k => if k = t then R t ++ [v] else R k) (fun u => if u = v then ((R t).length : Int) else f u) (fun u => decide (u = v) || S u) ∧ ∀ s k, (us' s).ownBlock = some k → (us s).ownBlock = some k ∨ w.heap.size ≤ k) ∧ (∀ k, k < w.heap.size → k ≠ b → k ≠ m → (us t).ownBlock ≠ some k → w'.heap[k]? = w.heap[k]?) ∧ Below base w w' := by
  have k0 := Lib.hid ((Below.refl w.heap.size w).alloc (Nat.le_refl _) (.cells #[.int .i64 t, .string (bs text), .int .u64 bits, .string (bs cls), .string (bs name), .string (bs desc)] 25))
  have q0 := Lib.hid (vbox_new w ⟨(t : Int), text, bits, cls, name, desc⟩)
  have HE := Lib.hid he
  clear he
  have T0 := Lib.hid (h.grow k0.out)
  have hwb : base ≤ w.heap.size := Nat.le_trans h.hb (Nat.le_of_lt h.box.lt)
  have htl : t < 13 := by omega
  have HLT := Lib.hid (fun k (hk : (us t).ownBlock = some k) => (World.ownsRow.lt (h.rows t htl) k hk).2)
  clear h
  go_enter Try.func19, Try.ntmps19
  go_wp2_with fail
  generalize w.alloc (.cells #[.int .i64 t, .string (bs text), .int .u64 bits, .string (bs cls), .string (bs name), .string (bs desc)] 25) = W at k0 q0 T0 ⊢
  obtain ⟨A, c, eu, hV0, hA0⟩ := (T0.out.rows t htl).reads
  clear hV0 hA0
  have m1 := T0.out.box.map
  have r1 := T0.out.box.cell htl
  rw [eu] at r1
  obtain ⟨d0, d1, d2, d3, d4, d5⟩ := q0.out.at_
  dsimp only at d0 d1 d2 d3 d4 d5
  have hz := q0.out.lt
  have hbz := T0.out.box.lt
  have i1 : (t : Int) < 13 := by omega
  have i2 : decide (t < 13) = true := decide_eq_true htl
  have EU := Lib.hid eu
  clear eu
  refine wp_region_draw_tail 13 (by kernel_rfl) (by kernel_rfl) ?_
  simp only [List.take_succ_cons, List.take_zero, List.drop_succ_cons, List.drop_zero]
  repeat (go_big_quiet_step (fail))
  refine wpQuiet_nil ?_
  intro q1
  obtain ⟨x4, e4⟩ : ∃ x4, x4 = W.drewN q1 := ⟨_, rfl⟩
  have T4 := Lib.hid (show TabS x4 base b m n us R f S from by rw [e4]; exact T0.out.grow (below_drewN (Below.refl _ _) q1))
  have q4 := Lib.hid (show VBox x4 w.heap.size ⟨(t : Int), text, bits, cls, name, desc⟩ from by rw [e4]; exact q0.out)
  have k4 := Lib.hid (show Below w.heap.size w x4 from by rw [e4]; exact below_drewN k0.out q1)
  rw [← e4]
  have hvv : Value.agg #[.int .i64 (t : Int), .string (bs text), .int .u64 bits, .string (bs cls), .string (bs name), .string (bs desc)] = vv v := by rw [HE.out]; rfl
  have HVV := Lib.hid hvv
  have HI := Lib.hid (show I64 ((R t).length : Int) by unfold I64; omega)
  have HNM := Lib.hid (show n < maxLen by unfold maxLen; omega)
  have HFK := Lib.hid hv.k
  clear e4 d0 d1 d2 d3 d4 d5 hz hbz m1 r1 T0 q0 k0 hvv
  go_wp2_with (at_mapUpdate; refine wpList_tabPut rfl _ _ _ rfl m n f S v (R t).length rfl T4.out.num HNM.out HFK.out HVV.out rfl HI.out ?_; intro x5 hn5 hg5)
  have T5 := Lib.hid (T4.out.nums hn5 hg5)
  have hm5 : m ≠ w.heap.size := T4.out.num.ne q4.out
  have q5 := Lib.hid ((hg5.block _ q4.out.lt (fun e => hm5 (Option.some.inj e).symm)).trans q4.out)
  have k5 := Lib.hid (show Below base w x5 from (k4.out.mono hwb).grown hg5 (Nat.le_trans hwb k4.out.size) (fun j hj => by cases hj; exact T4.out.hm))
  have H5 := Lib.hid (show ∀ k, k < w.heap.size → k ≠ m → x5.heap[k]? = w.heap[k]? from fun k hk hm => (hg5.block k (Nat.lt_of_lt_of_le hk k4.out.size) (fun e => hm (Option.some.inj e))).trans (k4.out.block k hk))
  have hw5 : w.heap.size ≤ x5.heap.size := Nat.le_trans k4.out.size hg5.size
  clear hn5 hg5 hm5 T4 q4 k4
  have hrw := T5.out.rows t htl
  have hcl := T5.out.box.cell htl
  rw [EU.out] at hrw hcl
  have RW := Lib.hid hrw
  have hfz := T5.out.box.frozen t
  have hbz := T5.out.box.lt
  obtain ⟨d0, d1, d2, d3, d4, d5⟩ := VBox.at_ (v := ⟨(t : Int), text, bits, cls, name, desc⟩) q5.out
  dsimp only at d0 d1 d2 d3 d4 d5
  have hz : w.heap.size < x5.heap.size := (Array.getElem?_eq_some_iff.1 q5.out).1
  clear hrw
  have HSRC := Lib.hid (fun (y : World) (B : Nat) (hb : y.heap[B]? = some (.cells #[.int .i64 (t : Int), .string (bs text), .int .u64 bits, .string (bs cls), .string (bs name), .string (bs desc)] 25 (0, 0))) => (show Src Try.prog 6 22 (.slice (some ⟨B, 0, none⟩) 1 1) 1 (vc [v]) y from by
    rw [HE.out]
    exact src_val (v := ⟨(t : Int), text, bits, cls, name, desc⟩) hb 1))
  have FA := Lib.hid (show ∀ (v7 : Value) (x7 : World), VRow x7 base v7 (R t ++ [v]) → Hop (x5.drew.alloc (.cells #[.int .i64 (t : Int), .string (bs text), .int .u64 bits, .string (bs cls), .string (bs name), .string (bs desc)] 25)) x7 (Value.slice A (R t).length c).ownBlock v7.ownBlock →
      (x7.cell? ⟨b, t, none⟩ = some (.slice A (R t).length c) ∧ x7.frozen? ⟨b, t, none⟩ = false ∧ b < x7.heap.size ∧ x7.cell? ⟨w.heap.size, 0, none⟩ = some (.int .i64 (t : Int)) ∧ w.heap.size < x7.heap.size) ∧ ∃ A7 d7, v7 = .slice A7 ((R t).length + 1) d7 from fun v7 x7 hr7 hp7 => by
    have hx7 : Below x5.heap.size x5 (x5.drew.alloc (.cells #[.int .i64 (t : Int), .string (bs text), .int .u64 bits, .string (bs cls), .string (bs name), .string (bs desc)] 25)) := (Below.refl _ _).drew.alloc (Nat.le_refl _) _
    have hb7 : TBox x7 b us m := TBox.kept (T5.out.box.keep hx7 T5.out.box.lt) hp7.1 ((T5.out.box.keep hx7 T5.out.box.lt).apart (RW.out.grow hx7) rfl)
    have c7 := hb7.cell htl
    rw [EU.out] at c7
    have q7 := (hp7.1.block w.heap.size (by simp; omega) (fun e => by
      have h1 := HLT.out w.heap.size (by rw [EU.out]; exact e.symm)
      omega)).trans (VBox.keep (v := ⟨(t : Int), text, bits, cls, name, desc⟩) q5.out hx7 hz)
    obtain ⟨A7, d7, e7, _, _⟩ := hr7.reads
    rw [List.length_append] at e7
    exact ⟨⟨c7, hb7.frozen t, hb7.lt, (VBox.at_ (v := ⟨(t : Int), text, bits, cls, name, desc⟩) q7).1, (Array.getElem?_eq_some_iff.1 q7).1⟩, A7, d7, e7⟩)
  go_region_law ((refine step_appV rfl _ _ rfl base _ (R t) rfl (RW.out.grow (by (repeat (first | exact Below.refl _ _ | refine Below.drew ?_ | refine Below.alloc ?_ ?_ _)); (all_goals (first | omega | (simp; done) | (simp; omega))))) _ [v] rfl (HSRC.out _ _ (heap_alloc_new _ _)) (by simp; omega) (by first | exact k5.out.size | (have := k5.out.size; simp; omega)) ?_; intro v7 x7 hr7 hp7; obtain ⟨⟨c7, f7, z7, g0, gz⟩, A7, d7, e7⟩ := FA.out v7 x7 hr7 hp7; subst e7))
  all_goals
    have hx7 : Below x5.heap.size x5 (x5.drew.alloc (.cells #[.int .i64 (t : Int), .string (bs text), .int .u64 bits, .string (bs cls), .string (bs name), .string (bs desc)] 25)) := (Below.refl _ _).drew.alloc (Nat.le_refl _) _
    have hp8 := hp7
    rw [← EU.out] at hp8
    have TF := Lib.hid ((T5.out.grow hx7).put htl hr7 hp8)
    have BF := Lib.hid (show Below base w (x7.setCell ⟨b, t, none⟩ (.slice A7 ((R t).length + 1) d7)) from ((k5.out.trans (hx7.mono (Nat.le_trans hwb k5.out.size))).trans (hp7.below (Nat.le_trans (Nat.le_trans hwb k5.out.size) hx7.size) (fun k hk => RW.out.base_le hk))).setCell (p := ⟨b, t, none⟩) T5.out.hb _)
    have FR := Lib.hid (show ∀ k, k < w.heap.size → k ≠ b → k ≠ m → (us t).ownBlock ≠ some k → (x7.setCell ⟨b, t, none⟩ (.slice A7 ((R t).length + 1) d7)).heap[k]? = w.heap[k]? from fun k hk hkb hkm hku => by
      have hb7 : TBox x7 b us m := TBox.kept (T5.out.box.keep hx7 T5.out.box.lt) hp7.1 ((T5.out.box.keep hx7 T5.out.box.lt).apart (RW.out.grow hx7) rfl)
      have h1 : k < x5.heap.size := Nat.lt_of_lt_of_le hk hw5
      have h2 := Nat.lt_of_lt_of_le h1 hx7.size
      refine ((hb7.turned t _).block k (Nat.lt_of_lt_of_le h2 hp7.1.size) (fun e => hkb (Option.some.inj e))).trans ((hp7.1.block k h2 (fun e => hku (by rw [EU.out]; exact e.symm))).trans ((hx7.block k h1).trans (H5.out k hk hkm)))
      )
    have NU := Lib.hid (show ∀ s k, ((fun s => if s = t then Value.slice A7 ((R t).length + 1) d7 else us s) s).ownBlock = some k → (us s).ownBlock = some k ∨ w.heap.size ≤ k from fun s k hk => by
      dsimp only at hk
      by_cases e : s = t
      · subst e
        rw [if_pos rfl] at hk
        rcases hp8.2 with h2 | ⟨q, hq, h2⟩
        · exact .inl (h2 ▸ hk)
        · rw [h2] at hk
          cases hk
          exact .inr (Nat.le_trans hw5 (Nat.le_trans hx7.size hq))
      · rw [if_neg e] at hk
        exact .inl hk)
    clear hx7 hp8 hr7 hp7 FA HSRC c7 f7 z7 g0 gz d0 d1 d2 d3 d4 d5 hz hbz hfz hcl
    go_wp2_with fail
    go_end0
    exact ⟨rfl, ⟨_, TF.out, NU.out⟩, FR.out, BF.out⟩
/-- A value more. -/
theorem add_any (base b m n t : Nat) (us : Nat → Value) (R : Nat → List Pv) (f : Pv → Int) (S : Pv → Bool) (v : Pv) (w : World) (h : TabS w base b m n us R f S) (hv : v.fits) (ht : v.tag = (t : Int)) (ht2 : 1 ≤ t ∧ t ≤ 12) (hn : n ≤ 1000000) (hl : (R t).length ≤ 1000000) :
    Calls Try.prog 19 #[.pointer (some ⟨b, 0, none⟩), vv v] w fun e w' => e = .returned (.tuple #[]) ∧ (∃ us', TabS w' base b m (n + 1) us' (fun k => if k = t then R t ++ [v] else R k) (fun u => if u = v then ((R t).length : Int) else f u) (fun u => decide (u = v) || S u) ∧ ∀ s k, (us' s).ownBlock = some k → (us s).ownBlock = some k ∨ w.heap.size ≤ k) ∧ (∀ k, k < w.heap.size → k ≠ b → k ≠ m → (us t).ownBlock ≠ some k → w'.heap[k]? = w.heap[k]?) ∧ Below base w w' := by
  have h1 := add_aux base b m n t us R f S v.text v.bits v.cls v.name v.desc v (by rw [← ht]) w h hv ht2 hn hl
  unfold vv
  rw [ht]
  exact h1
end Go.Proofs.Ytekcfjfkbiciaaa
