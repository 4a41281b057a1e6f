/- The walk of layer 19: a value put in its place, by the document. -/
import Derived.Test.YtekcfjfkbiciaaaWalksD
import Derived.Deep.RegionLaw
namespace Go.Proofs.Ytekcfjfkbiciaaa
open Go.RowKit

theorem putO_at (l : List Pv) (v : Pv) (k : Nat) (hk : k ≤ l.length) (h1 : ∀ x ∈ l.take k, Pv.lt x v) (h2 : k = l.length ∨ ∃ x, l[k]? = some x ∧ ¬ Pv.lt x v) (hm : v ∉ l) : putO Pv.lt l v = l.take k ++ v :: l.drop k := by
  unfold putO
  rw [if_neg hm]
  have e : ∀ (l : List Pv) (k : Nat), k ≤ l.length → (∀ x ∈ l.take k, Pv.lt x v) → (k = l.length ∨ ∃ x, l[k]? = some x ∧ ¬ Pv.lt x v) → l.takeWhile (fun x => decide (Pv.lt x v)) = l.take k ∧ l.dropWhile (fun x => decide (Pv.lt x v)) = l.drop k := by
    intro l
    induction l with
    | nil => intro k _ _ _; simp
    | cons y l ih =>
      intro k hk h1 h2
      cases k with
      | zero =>
        rcases h2 with h2 | ⟨x, h2, h3⟩
        · simp at h2
        · simp at h2
          subst h2
          simp [h3]
      | succ k =>
        have hy : Pv.lt y v := h1 y (by simp)
        obtain ⟨e1, e2⟩ := ih k (by simpa using hk) (fun x hx => h1 x (by simp [hx])) (by
          rcases h2 with h2 | ⟨x, h2, h3⟩
          · exact .inl (by simpa using h2)
          · exact .inr ⟨x, by simpa using h2, h3⟩)
        rw [List.takeWhile_cons, List.dropWhile_cons, if_pos (by simpa using hy), if_pos (by simpa using hy), e1, e2]
        simp
  obtain ⟨e1, e2⟩ := e l k hk h1 h2
  rw [e1, e2]

theorem fresh0 {x : World} {B base : Nat} (h : x.heap[B]? = some (.cells #[] 25 (0, 0))) (hb : base ≤ B) : VRow x base (.slice (some ⟨B, 0, none⟩) 0 0) [] :=
  ⟨rfl, .inr ⟨B, 0, #[], rfl, hb, h, Nat.le_refl _, by unfold maxLen; omega, rfl, rfl⟩⟩
/-- A head and a tail of a row that is read, as sources. -/
theorem Vals.take {w : World} {g o c : Nat} {xs : List Pv} (h : Vals w (some ⟨g, o, none⟩) c xs) (k : Nat) (hk : k ≤ xs.length) : Vals w (some ⟨g, o, none⟩) c (xs.take k) :=
  ⟨by rw [List.length_take]; have := h.1; omega, fun h0 => by
    rw [List.length_take] at h0
    obtain ⟨g', o', e, hg, hc⟩ := h.2 (by omega)
    refine ⟨g', o', e, hg, fun j v hv => hc j v ?_⟩
    rw [List.getElem?_take] at hv
    split at hv
    · exact hv
    · cases hv⟩
theorem Vals.drop {w : World} {g o c : Nat} {xs : List Pv} (h : Vals w (some ⟨g, o, none⟩) c xs) (k : Nat) (hk : k ≤ xs.length) : Vals w (some ⟨g, o + k * 6, none⟩) (c - k) (xs.drop k) :=
  ⟨by rw [List.length_drop]; have := h.1; omega, fun h0 => by
    rw [List.length_drop] at h0
    obtain ⟨g', o', e, hg, hc⟩ := h.2 (by omega)
    cases e
    refine ⟨g, _, rfl, hg, fun j v hv => ?_⟩
    have := hc (k + j) v (by rw [List.getElem?_drop] at hv; exact hv)
    rw [Nat.add_mul, ← Nat.add_assoc] at this
    exact this⟩
set_option maxHeartbeats 4000000 in
set_option maxRecDepth 100000 in
theorem put_none (base : Nat) (v : Pv) (w : World) (hbase : base ≤ w.heap.size) :
    Calls Try.prog 34 #[.slice none 0 0, vv v] w fun e w' => ∃ u', e = .returned u' ∧ VRow w' w.heap.size u' [v] ∧ Below w.heap.size w w' := by
  have k0 := Lib.hid ((Below.refl w.heap.size w).alloc (Nat.le_refl _) (.cells #[.int .i64 v.tag, .string (bs v.text), .int .u64 v.bits, .string (bs v.cls), .string (bs v.name), .string (bs v.desc)] 25))
  have q0 := Lib.hid (vbox_new w v)
  have HH := Lib.hid (fun w => has_any none 0 [] v w (Vals.nil _ _ _) (by simp))
  unfold vv at HH ⊢
  go_enter Try.func34, Try.ntmps34
  go_wp2_with fail
  generalize w.alloc (.cells #[.int .i64 v.tag, .string (bs v.text), .int .u64 v.bits, .string (bs v.cls), .string (bs v.name), .string (bs v.desc)] 25) = W at k0 q0 ⊢
  obtain ⟨d0, d1, d2, d3, d4, d5⟩ := q0.out.at_
  have hqs := q0.out.lt
  go_wp2_with fail
  refine (HH.out _).mono ?_
  rintro e w1 ⟨rfl, hb⟩
  clear HH d0 d1 d2 d3 d4 d5
  have K1 := Lib.hid (k0.out.trans (hb.mono k0.out.size))
  have Q1 := Lib.hid (q0.out.keep hb q0.out.lt)
  clear hb hqs
  go_wp2_with fail
  go_loopw [5] (fun t wr => t = .int .i64 0 ∧ Below w1.heap.size w1 wr) (fun t _ => 0)
  case atStart => exact ⟨rfl, Below.refl _ _⟩
  case round =>
    obtain ⟨rfl, hB⟩ := hrel
    have HC := Lib.hid (K1.out.trans (hB.mono K1.out.size))
    have hq := Q1.out.keep hB Q1.out.lt
    have HQ := Lib.hid hq
    have hqs := hq.lt
    obtain ⟨d0, d1, d2, d3, d4, d5⟩ := hq.at_
    clear hB hq
    go_wp2_with fail
    refine wp_region_grow (by kernel_rfl) (by kernel_rfl) ?_
    repeat (go_big_quiet_step ((go_at_call 47; fail)))
    refine wpQuiet_nil ?_
    intro g1
    obtain ⟨w1, hb1⟩ := g1
    have HD := Lib.hid (HC.out.trans (hb1.mono HC.out.size))
    have hbl := hb1
    dsimp only
    clear hb1 d0 d1 d2 d3 d4 d5 hqs
    go_wp2_with fail
    have hbw : w.heap.size ≤ w1.heap.size := HD.out.size
    have HS2 := Lib.hid (fun A' c' y (hy : Below w1.heap.size w1 y) => (Vals.nil y A' c').src (Below.refl _ _))
    have hq1 := Lib.hid (HQ.out.keep (hbl) HQ.out.lt)
    have hqs1 := hq1.out.lt
    obtain ⟨d0, d1, d2, d3, d4, d5⟩ := hq1.out.at_
    go_region_law ((first
      | (refine step_appV rfl _ _ rfl w1.heap.size (.slice (some ⟨_, 0, none⟩) 0 0) [] rfl (fresh0 (by (first | exact heap_alloc2_new _ _ _ | exact heap_alloc2_old _ _ _ | exact heap_alloc_new _ _)) (by (first | omega | (simp; done) | (simp; omega)))) _ [] rfl (by exact HS2.out _ _ _ (by (repeat (first | exact Below.refl _ _ | exact hb2 | exact hb1 | refine Below.drew ?_ | refine Below.alloc ?_ ?_ _)); (all_goals (first | omega | (simp; done) | (simp; omega))))) (by simp; try omega) (by (first | omega | (simp; done) | (simp; omega))) ?_; intro v1 x1 hr1 hp1; have hb1 : Below w1.heap.size w1 x1 := Below.trans (by (repeat (first | exact Below.refl _ _ | exact hb2 | exact hb1 | refine Below.drew ?_ | refine Below.alloc ?_ ?_ _)); (all_goals (first | omega | (simp; done) | (simp; omega)))) (hp1.below (by (first | omega | (simp; done) | (simp; omega))) (fun k hk => by cases hk; (first | omega | (simp; done) | (simp; omega)))); have hbs1 := hb1.size; obtain ⟨e0, e1, e2, e3, e4, e5⟩ := (hq1.out.keep hb1 hq1.out.lt).at_; have hqs2 := (hq1.out.keep hb1 hq1.out.lt).lt)
      | (refine step_appV rfl _ _ rfl w1.heap.size _ ([] ++ []) rfl (by first | exact hr1 | (refine hr1.grow ?_; (repeat (first | exact Below.refl _ _ | exact hb2 | exact hb1 | refine Below.drew ?_ | refine Below.alloc ?_ ?_ _)); (all_goals (first | omega | (simp; done) | (simp; omega))))) _ [v] rfl (src_val (by first | exact heap_alloc_new _ _ | (refine (hp1.1.block _ ?_ ?_).trans ?_; rotate_left 2; (first | exact heap_alloc2_new _ _ _ | exact heap_alloc2_old _ _ _ | exact heap_alloc_new _ _); all_goals (simp [Value.ownBlock]; try omega))) 1) (by simp; try omega) (by (first | omega | (simp; done) | (simp; omega))) ?_; intro v2 x2 hr2 hp2; have hb2 : Below w1.heap.size w1 x2 := Below.trans (by (repeat (first | exact Below.refl _ _ | exact hb2 | exact hb1 | refine Below.drew ?_ | refine Below.alloc ?_ ?_ _)); (all_goals (first | omega | (simp; done) | (simp; omega)))) (hp2.below (by (first | omega | (simp; done) | (simp; omega))) (fun k hk => hr1.base_le hk)); have hbs2 := hb2.size)
      | (refine step_appV rfl _ _ rfl w1.heap.size _ ([] ++ [] ++ [v]) rfl (by first | exact hr2 | (refine hr2.grow ?_; (repeat (first | exact Below.refl _ _ | exact hb2 | exact hb1 | refine Below.drew ?_ | refine Below.alloc ?_ ?_ _)); (all_goals (first | omega | (simp; done) | (simp; omega))))) _ [] rfl (by exact HS2.out _ _ _ (by (repeat (first | exact Below.refl _ _ | exact hb2 | exact hb1 | refine Below.drew ?_ | refine Below.alloc ?_ ?_ _)); (all_goals (first | omega | (simp; done) | (simp; omega))))) (by simp; try omega) (by (first | omega | (simp; done) | (simp; omega))) ?_; intro v3 x3 hr3 hp3; have hb3 : Below w1.heap.size w1 x3 := Below.trans (by (repeat (first | exact Below.refl _ _ | exact hb2 | exact hb1 | refine Below.drew ?_ | refine Below.alloc ?_ ?_ _)); (all_goals (first | omega | (simp; done) | (simp; omega)))) (hp3.below (by (first | omega | (simp; done) | (simp; omega))) (fun k hk => hr2.base_le hk)))
      | (go_must (trace_state; fail))))
    all_goals (go_wp2; go_ret; refine ⟨v3, rfl, ?_, HD.out.trans (hb3.mono HD.out.size)⟩; have h3 := hr3.lower hbw; simpa using h3)
/-- What the call comes to: the row itself, or a new one. -/
def PutOk (base : Nat) (u : Value) (l : List Pv) (v : Pv) (w : World) (e : Ending) (w' : World) : Prop :=
  ∃ u', e = .returned u' ∧ (v ∈ l ∧ u' = u ∨ v ∉ l ∧ VRow w' w.heap.size u' (putO Pv.lt l v)) ∧ VRow w' base u' (putO Pv.lt l v) ∧ Below w.heap.size w w'
set_option maxHeartbeats 4000000 in
set_option maxRecDepth 100000 in
theorem put_any (base : Nat) (u : Value) (l : List Pv) (v : Pv) (w : World) (hx : VRow w base u l) (hn : l.length ≤ 1000000000) (hbase : base ≤ w.heap.size) :
    Calls Try.prog 34 #[u, vv v] w (PutOk base u l v w) := by
  rcases hx.2 with ⟨rfl, hn0⟩ | hblk0
  · obtain rfl : l = [] := List.eq_nil_of_length_eq_zero hn0
    exact (put_none base v w hbase).mono fun e w' ⟨u', h1, h2, h3⟩ => ⟨u', h1, .inr ⟨by simp, by simpa [putO] using h2⟩, by simpa [putO] using h2.lower hbase, h3⟩
  have HK := Lib.hid hblk0
  clear hblk0
  obtain ⟨A, c, rfl, hV, hA⟩ := hx.reads
  have HX := Lib.hid hV
  have HR := Lib.hid hx
  have k0 := Lib.hid ((Below.refl w.heap.size w).alloc (Nat.le_refl _) (.cells #[.int .i64 v.tag, .string (bs v.text), .int .u64 v.bits, .string (bs v.cls), .string (bs v.name), .string (bs v.desc)] 25))
  have q0 := Lib.hid (vbox_new w v)
  have HH := Lib.hid (fun w h => has_any A c l v w h (by omega))
  have HL := Lib.hid (fun x w => less_any x v w)
  have HA := Lib.hid hA
  clear hV hx hA
  unfold vv at HH HL ⊢
  go_enter Try.func34, Try.ntmps34
  go_wp2_with fail
  generalize w.alloc (.cells #[.int .i64 v.tag, .string (bs v.text), .int .u64 v.bits, .string (bs v.cls), .string (bs v.name), .string (bs v.desc)] 25) = W at k0 q0 ⊢
  refine (HH.out W (HX.out.grow k0.out)).mono ?_
  rintro e w1 ⟨rfl, hb1⟩
  have K1 := Lib.hid (k0.out.trans (hb1.mono k0.out.size))
  have Q1 := Lib.hid (q0.out.keep hb1 q0.out.lt)
  clear hb1
  by_cases hm : v ∈ l
  · have hd : decide (v ∈ l) = true := decide_eq_true hm
    have HP := Lib.hid (show putO Pv.lt l v = l from if_pos hm)
    have HM1 := Lib.hid hm
    have HR1 := Lib.hid (HR.out.grow K1.out)
    rw [hd]
    clear hm hd
    go_wp2
    go_ret
    exact ⟨_, rfl, .inl ⟨HM1.out, rfl⟩, by rw [HP.out]; exact HR1.out, K1.out⟩
  have hd : decide (v ∈ l) = false := decide_eq_false hm
  rw [hd]
  have HM := Lib.hid hm
  clear hm hd
  go_wp2_with fail
  go_loopw [5] (fun t wr => ∃ k : Nat, k ≤ l.length ∧ t = .int .i64 k ∧ (∀ x ∈ l.take k, Pv.lt x v) ∧ Below w1.heap.size w1 wr) (fun t _ => l.length - (intOf t).toNat)
  case atStart => exact ⟨0, Nat.zero_le _, rfl, by simp, Below.refl _ _⟩
  case round =>
    obtain ⟨k, hk, rfl, hlt, hB⟩ := hrel
    have HB := Lib.hid (K1.out.trans (hB.mono K1.out.size))
    have HB' := Lib.hid hB
    have hq := Q1.out.keep hB Q1.out.lt
    have HQ := Lib.hid hq
    have HLT := Lib.hid hlt
    clear hlt hB hq
    by_cases hi : k < l.length
    · obtain ⟨g, o, x, eA, hg, hv, hva⟩ := (HX.out.grow HB.out).at_ hi
      obtain ⟨hbg, ho⟩ := HA.out g o eA
      rw [ho, Nat.zero_add] at hva
      obtain ⟨c0, c1, c2, c3, c4, c5⟩ := hva
      subst eA
      subst ho
      have p1 : decide ((k : Int) < (l.length : Int)) = true := decide_eq_true (by omega)
      have p2 : decide (k < l.length) = true := decide_eq_true hi
      have HF := Lib.hid hv
      have hqs := HQ.out.lt
      obtain ⟨d0, d1, d2, d3, d4, d5⟩ := HQ.out.at_
      have hl := HL.out x
      unfold vv at hl
      have HLx := Lib.hid hl
      clear hv hl
      have fin : ∀ b : Bool, decide (Pv.lt x v) = b → True := fun _ _ => trivial
      clear fin
      by_cases hxv : Pv.lt x v
      · have hd : decide (Pv.lt x v) = true := decide_eq_true hxv
        have HS := Lib.hid (show ∀ y ∈ l.take (k + 1), Pv.lt y v by
          obtain ⟨h1, h2⟩ := List.getElem?_eq_some_iff.1 HF.out
          rw [List.take_succ_eq_append_getElem h1, h2]
          intro y hy
          rw [List.mem_append, List.mem_singleton] at hy
          rcases hy with h | rfl
          · exact HLT.out y h
          · exact hxv)
        have HLy := Lib.hid (fun w => (HLx.out w).mono fun e w' h => (show e = .returned (.bool true) ∧ Below w.heap.size w w' by rw [← hd]; exact h))
        clear hxv hd
        go_wp2_with fail
        refine wp_region_grow (by kernel_rfl) (by kernel_rfl) ?_
        repeat (go_big_quiet_step ((go_at_call 47; exact Gr.call (HLy.out _))))
        refine wpQuiet_nil ?_
        intro g1
        obtain ⟨w1, hb1⟩ := g1
        have HC := Lib.hid (HB'.out.trans (hb1.mono HB'.out.size))
        dsimp only
        clear hb1
        go_wp2
        go_roundw
        case rel => exact ⟨k + 1, by omega, by go_num, HS.out, HC.out⟩
        case measure => simp [intOf]; omega
      · have hd : decide (Pv.lt x v) = false := decide_eq_false hxv
        have HLy := Lib.hid (fun w => (HLx.out w).mono fun e w' h => (show e = .returned (.bool false) ∧ Below w.heap.size w w' by rw [← hd]; exact h))
        have HP := Lib.hid (putO_at l v k hk HLT.out (.inr ⟨x, HF.out, hxv⟩) HM.out)
        clear hxv hd
        go_wp2_with fail
        refine wp_region_grow (by kernel_rfl) (by kernel_rfl) ?_
        repeat (go_big_quiet_step ((go_at_call 47; exact Gr.call (HLy.out _))))
        refine wpQuiet_nil ?_
        intro g1
        obtain ⟨w1, hb1⟩ := g1
        have HC := Lib.hid (HB.out.trans (hb1.mono HB.out.size))
        have hbl := hb1
        dsimp only
        clear hb1
        go_wp2_with fail
        have hlc : l.length ≤ c := HX.out.1
        have hck : ¬ c = k := by omega
        have hkc : k ≤ c := by omega
        have hkl : k ≤ l.length := hk
        have hbw : base ≤ w1.heap.size := by have := HC.out.size; have := HX.out.2 (by omega); obtain ⟨g', o', e, h1, _⟩ := this; cases e; omega
        have HS1 := Lib.hid (fun y (hy : Below w1.heap.size w1 y) => by
          have h := ((HX.out.grow HC.out).take k hk).src hy
          rwa [List.length_take, Nat.min_eq_left hk] at h)
        have HS2 := Lib.hid (fun y (hy : Below w1.heap.size w1 y) => by
          have h := ((HX.out.grow HC.out).drop k hk).src hy
          rwa [List.length_drop, Nat.zero_add] at h)
        have hq1 := Lib.hid (HQ.out.keep (hbl) HQ.out.lt)
        have hqs1 := hq1.out.lt
        obtain ⟨d0, d1, d2, d3, d4, d5⟩ := hq1.out.at_
        go_region_law ((first
          | (refine step_appV rfl _ _ rfl w1.heap.size (.slice (some ⟨_, 0, none⟩) 0 0) [] rfl (fresh0 (by (first | exact heap_alloc2_new _ _ _ | exact heap_alloc2_old _ _ _ | exact heap_alloc_new _ _)) (by (first | omega | (simp; done) | (simp; omega)))) _ (l.take k) rfl (by rw [List.length_take, Nat.min_eq_left hkl]; refine HS1.out _ ?_; (repeat (first | exact Below.refl _ _ | exact hb2 | exact hb1 | refine Below.drew ?_ | refine Below.alloc ?_ ?_ _)); (all_goals (first | omega | (simp; done) | (simp; omega)))) (by simp; omega) (by (first | omega | (simp; done) | (simp; omega))) ?_; intro v1 x1 hr1 hp1; have hb1 : Below w1.heap.size w1 x1 := Below.trans (by (repeat (first | exact Below.refl _ _ | exact hb2 | exact hb1 | refine Below.drew ?_ | refine Below.alloc ?_ ?_ _)); (all_goals (first | omega | (simp; done) | (simp; omega)))) (hp1.below (by (first | omega | (simp; done) | (simp; omega))) (fun k hk => by cases hk; (first | omega | (simp; done) | (simp; omega)))); have hbs1 := hb1.size; obtain ⟨e0, e1, e2, e3, e4, e5⟩ := (hq1.out.keep hb1 hq1.out.lt).at_; have hqs2 := (hq1.out.keep hb1 hq1.out.lt).lt)
          | (refine step_appV rfl _ _ rfl w1.heap.size _ ([] ++ l.take k) rfl (by first | exact hr1 | (refine hr1.grow ?_; (repeat (first | exact Below.refl _ _ | exact hb2 | exact hb1 | refine Below.drew ?_ | refine Below.alloc ?_ ?_ _)); (all_goals (first | omega | (simp; done) | (simp; omega))))) _ [v] rfl (src_val (by first | exact heap_alloc_new _ _ | (refine (hp1.1.block _ ?_ ?_).trans ?_; rotate_left 2; (first | exact heap_alloc2_new _ _ _ | exact heap_alloc2_old _ _ _ | exact heap_alloc_new _ _); all_goals (simp [Value.ownBlock]; try omega))) 1) (by simp; omega) (by (first | omega | (simp; done) | (simp; omega))) ?_; intro v2 x2 hr2 hp2; have hb2 : Below w1.heap.size w1 x2 := Below.trans (by (repeat (first | exact Below.refl _ _ | exact hb2 | exact hb1 | refine Below.drew ?_ | refine Below.alloc ?_ ?_ _)); (all_goals (first | omega | (simp; done) | (simp; omega)))) (hp2.below (by (first | omega | (simp; done) | (simp; omega))) (fun k hk => hr1.base_le hk)); have hbs2 := hb2.size)
          | (refine step_appV rfl _ _ rfl w1.heap.size _ ([] ++ l.take k ++ [v]) rfl (by first | exact hr2 | (refine hr2.grow ?_; (repeat (first | exact Below.refl _ _ | exact hb2 | exact hb1 | refine Below.drew ?_ | refine Below.alloc ?_ ?_ _)); (all_goals (first | omega | (simp; done) | (simp; omega))))) _ (l.drop k) rfl (by rw [List.length_drop]; refine HS2.out _ ?_; (repeat (first | exact Below.refl _ _ | exact hb2 | exact hb1 | refine Below.drew ?_ | refine Below.alloc ?_ ?_ _)); (all_goals (first | omega | (simp; done) | (simp; omega)))) (by simp; omega) (by (first | omega | (simp; done) | (simp; omega))) ?_; intro v3 x3 hr3 hp3; have hb3 : Below w1.heap.size w1 x3 := Below.trans (by (repeat (first | exact Below.refl _ _ | exact hb2 | exact hb1 | refine Below.drew ?_ | refine Below.alloc ?_ ?_ _)); (all_goals (first | omega | (simp; done) | (simp; omega)))) (hp3.below (by (first | omega | (simp; done) | (simp; omega))) (fun k hk => hr2.base_le hk)))
          | (go_must (trace_state; fail))))
        all_goals (go_wp2; go_ret; have hfr : VRow _ w.heap.size v3 (putO Pv.lt l v) := (by rw [HP.out]; have h3 := hr3.lower HC.out.size; simpa using h3); exact ⟨v3, rfl, .inr ⟨HM.out, hfr⟩, hfr.lower hbase, HC.out.trans (hb3.mono HC.out.size)⟩)
    · obtain rfl : k = l.length := by omega
      have p1 : decide ((l.length : Int) < (l.length : Int)) = false := decide_eq_false (by omega)
      have p2 : decide (l.length < l.length) = false := decide_eq_false (by omega)
      have HP := Lib.hid (putO_at l v l.length hk HLT.out (.inl rfl) HM.out)
      cases A with
      | none =>
        obtain ⟨g, cap, cur, h, _⟩ := HK.out
        cases h
      | some a =>
        obtain ⟨g, rfl, hg, hgw⟩ : ∃ g, a = ⟨g, 0, none⟩ ∧ base ≤ g ∧ g < w.heap.size := by
          rcases HR.out.2 with ⟨h, _⟩ | ⟨g, cap, cur, h, h1, h2, _⟩
          · cases h
          · cases h; exact ⟨g, rfl, h1, (Array.getElem?_eq_some_iff.1 h2).1⟩
        go_wp2_with fail
        refine wp_region_grow (by kernel_rfl) (by kernel_rfl) ?_
        repeat (go_big_quiet_step ((go_at_call 47; fail)))
        refine wpQuiet_nil ?_
        intro g1
        obtain ⟨w1, hb1⟩ := g1
        have HC := Lib.hid (HB.out.trans (hb1.mono HB.out.size))
        have hbl := hb1
        dsimp only
        clear hb1
        go_wp2_with fail
        have hlc : l.length ≤ c := HX.out.1
        have hbw : base ≤ w1.heap.size := by have := HC.out.size; omega
        have hkl : l.length ≤ l.length := Nat.le_refl _
        have HS1 := Lib.hid (fun y (hy : Below w1.heap.size w1 y) => by
          have h := ((HX.out.grow HC.out).take l.length hk).src hy
          rwa [List.length_take, Nat.min_eq_left hk] at h)
        have HS2 := Lib.hid (fun A' c' y (hy : Below w1.heap.size w1 y) => (Vals.nil y A' c').src (Below.refl _ _))
        have hq1 := Lib.hid (HQ.out.keep (hbl) HQ.out.lt)
        have hqs1 := hq1.out.lt
        obtain ⟨d0, d1, d2, d3, d4, d5⟩ := hq1.out.at_
        have hdr : l.drop l.length = [] := List.drop_length
        by_cases hck : c = l.length
        · subst hck
          go_region_law ((first
            | (refine step_appV rfl _ _ rfl w1.heap.size (.slice (some ⟨_, 0, none⟩) 0 0) [] rfl (fresh0 (by (first | exact heap_alloc2_new _ _ _ | exact heap_alloc2_old _ _ _ | exact heap_alloc_new _ _)) (by (first | omega | (simp; done) | (simp; omega)))) _ (l.take l.length) rfl (by rw [List.length_take, Nat.min_eq_left hkl]; refine HS1.out _ ?_; (repeat (first | exact Below.refl _ _ | exact hb2 | exact hb1 | refine Below.drew ?_ | refine Below.alloc ?_ ?_ _)); (all_goals (first | omega | (simp; done) | (simp; omega)))) (by simp; omega) (by (first | omega | (simp; done) | (simp; omega))) ?_; intro v1 x1 hr1 hp1; have hb1 : Below w1.heap.size w1 x1 := Below.trans (by (repeat (first | exact Below.refl _ _ | exact hb2 | exact hb1 | refine Below.drew ?_ | refine Below.alloc ?_ ?_ _)); (all_goals (first | omega | (simp; done) | (simp; omega)))) (hp1.below (by (first | omega | (simp; done) | (simp; omega))) (fun k hk => by cases hk; (first | omega | (simp; done) | (simp; omega)))); have hbs1 := hb1.size; obtain ⟨e0, e1, e2, e3, e4, e5⟩ := (hq1.out.keep hb1 hq1.out.lt).at_; have hqs2 := (hq1.out.keep hb1 hq1.out.lt).lt)
            | (refine step_appV rfl _ _ rfl w1.heap.size _ ([] ++ l.take l.length) rfl (by first | exact hr1 | (refine hr1.grow ?_; (repeat (first | exact Below.refl _ _ | exact hb2 | exact hb1 | refine Below.drew ?_ | refine Below.alloc ?_ ?_ _)); (all_goals (first | omega | (simp; done) | (simp; omega))))) _ [v] rfl (src_val (by first | exact heap_alloc_new _ _ | (refine (hp1.1.block _ ?_ ?_).trans ?_; rotate_left 2; (first | exact heap_alloc2_new _ _ _ | exact heap_alloc2_old _ _ _ | exact heap_alloc_new _ _); all_goals (simp [Value.ownBlock]; try omega))) 1) (by simp; omega) (by (first | omega | (simp; done) | (simp; omega))) ?_; intro v2 x2 hr2 hp2; have hb2 : Below w1.heap.size w1 x2 := Below.trans (by (repeat (first | exact Below.refl _ _ | exact hb2 | exact hb1 | refine Below.drew ?_ | refine Below.alloc ?_ ?_ _)); (all_goals (first | omega | (simp; done) | (simp; omega)))) (hp2.below (by (first | omega | (simp; done) | (simp; omega))) (fun k hk => hr1.base_le hk)); have hbs2 := hb2.size)
            | (refine step_appV rfl _ _ rfl w1.heap.size _ ([] ++ l.take l.length ++ [v]) rfl (by first | exact hr2 | (refine hr2.grow ?_; (repeat (first | exact Below.refl _ _ | exact hb2 | exact hb1 | refine Below.drew ?_ | refine Below.alloc ?_ ?_ _)); (all_goals (first | omega | (simp; done) | (simp; omega))))) _ [] rfl (by exact HS2.out _ _ _ (by (repeat (first | exact Below.refl _ _ | exact hb2 | exact hb1 | refine Below.drew ?_ | refine Below.alloc ?_ ?_ _)); (all_goals (first | omega | (simp; done) | (simp; omega))))) (by simp; omega) (by (first | omega | (simp; done) | (simp; omega))) ?_; intro v3 x3 hr3 hp3; have hb3 : Below w1.heap.size w1 x3 := Below.trans (by (repeat (first | exact Below.refl _ _ | exact hb2 | exact hb1 | refine Below.drew ?_ | refine Below.alloc ?_ ?_ _)); (all_goals (first | omega | (simp; done) | (simp; omega)))) (hp3.below (by (first | omega | (simp; done) | (simp; omega))) (fun k hk => hr2.base_le hk)))
            | (go_must (trace_state; fail))))
          all_goals (go_wp2; go_ret; have hfr : VRow _ w.heap.size v3 (putO Pv.lt l v) := (by rw [HP.out]; have h3 := hr3.lower HC.out.size; simpa using h3); exact ⟨v3, rfl, .inr ⟨HM.out, hfr⟩, hfr.lower hbase, HC.out.trans (hb3.mono HC.out.size)⟩)
        · have hck' : ¬ l.length = c := fun h => hck h.symm
          go_region_law ((first
            | (refine step_appV rfl _ _ rfl w1.heap.size (.slice (some ⟨_, 0, none⟩) 0 0) [] rfl (fresh0 (by (first | exact heap_alloc2_new _ _ _ | exact heap_alloc2_old _ _ _ | exact heap_alloc_new _ _)) (by (first | omega | (simp; done) | (simp; omega)))) _ (l.take l.length) rfl (by rw [List.length_take, Nat.min_eq_left hkl]; refine HS1.out _ ?_; (repeat (first | exact Below.refl _ _ | exact hb2 | exact hb1 | refine Below.drew ?_ | refine Below.alloc ?_ ?_ _)); (all_goals (first | omega | (simp; done) | (simp; omega)))) (by simp; omega) (by (first | omega | (simp; done) | (simp; omega))) ?_; intro v1 x1 hr1 hp1; have hb1 : Below w1.heap.size w1 x1 := Below.trans (by (repeat (first | exact Below.refl _ _ | exact hb2 | exact hb1 | refine Below.drew ?_ | refine Below.alloc ?_ ?_ _)); (all_goals (first | omega | (simp; done) | (simp; omega)))) (hp1.below (by (first | omega | (simp; done) | (simp; omega))) (fun k hk => by cases hk; (first | omega | (simp; done) | (simp; omega)))); have hbs1 := hb1.size; obtain ⟨e0, e1, e2, e3, e4, e5⟩ := (hq1.out.keep hb1 hq1.out.lt).at_; have hqs2 := (hq1.out.keep hb1 hq1.out.lt).lt)
            | (refine step_appV rfl _ _ rfl w1.heap.size _ ([] ++ l.take l.length) rfl (by first | exact hr1 | (refine hr1.grow ?_; (repeat (first | exact Below.refl _ _ | exact hb2 | exact hb1 | refine Below.drew ?_ | refine Below.alloc ?_ ?_ _)); (all_goals (first | omega | (simp; done) | (simp; omega))))) _ [v] rfl (src_val (by first | exact heap_alloc_new _ _ | (refine (hp1.1.block _ ?_ ?_).trans ?_; rotate_left 2; (first | exact heap_alloc2_new _ _ _ | exact heap_alloc2_old _ _ _ | exact heap_alloc_new _ _); all_goals (simp [Value.ownBlock]; try omega))) 1) (by simp; omega) (by (first | omega | (simp; done) | (simp; omega))) ?_; intro v2 x2 hr2 hp2; have hb2 : Below w1.heap.size w1 x2 := Below.trans (by (repeat (first | exact Below.refl _ _ | exact hb2 | exact hb1 | refine Below.drew ?_ | refine Below.alloc ?_ ?_ _)); (all_goals (first | omega | (simp; done) | (simp; omega)))) (hp2.below (by (first | omega | (simp; done) | (simp; omega))) (fun k hk => hr1.base_le hk)); have hbs2 := hb2.size)
            | (refine step_appV rfl _ _ rfl w1.heap.size _ ([] ++ l.take l.length ++ [v]) rfl (by first | exact hr2 | (refine hr2.grow ?_; (repeat (first | exact Below.refl _ _ | exact hb2 | exact hb1 | refine Below.drew ?_ | refine Below.alloc ?_ ?_ _)); (all_goals (first | omega | (simp; done) | (simp; omega))))) _ [] rfl (by exact HS2.out _ _ _ (by (repeat (first | exact Below.refl _ _ | exact hb2 | exact hb1 | refine Below.drew ?_ | refine Below.alloc ?_ ?_ _)); (all_goals (first | omega | (simp; done) | (simp; omega))))) (by simp; omega) (by (first | omega | (simp; done) | (simp; omega))) ?_; intro v3 x3 hr3 hp3; have hb3 : Below w1.heap.size w1 x3 := Below.trans (by (repeat (first | exact Below.refl _ _ | exact hb2 | exact hb1 | refine Below.drew ?_ | refine Below.alloc ?_ ?_ _)); (all_goals (first | omega | (simp; done) | (simp; omega)))) (hp3.below (by (first | omega | (simp; done) | (simp; omega))) (fun k hk => hr2.base_le hk)))
            | (go_must (trace_state; fail))))
          all_goals (go_wp2; go_ret; have hfr : VRow _ w.heap.size v3 (putO Pv.lt l v) := (by rw [HP.out]; have h3 := hr3.lower HC.out.size; simpa using h3); exact ⟨v3, rfl, .inr ⟨HM.out, hfr⟩, hfr.lower hbase, HC.out.trans (hb3.mono HC.out.size)⟩)
end Go.Proofs.Ytekcfjfkbiciaaa
