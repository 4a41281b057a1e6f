/- The walks of layer 16: values held against each other. -/
import Derived.Test.YtekcfjfkbiciaaaWalksD
import Derived.Test.YtekcfjfkbiciaaaGrowTail
import Derived.Sort.Grow
namespace Go.Proofs.Ytekcfjfkbiciaaa
open Go.RowKit

theorem nanI_any (x : Int) (w : World) : Calls Try.prog 43 #[.int .i64 x] w fun e w' => e = .returned (.bool false) ∧ w = w' := by
  go_enter Try.func43, Try.ntmps43
  go_wp2
  go_ret
  exact ⟨rfl, rfl⟩
theorem nanU_any (x : Int) (w : World) : Calls Try.prog 45 #[.int .u64 x] w fun e w' => e = .returned (.bool false) ∧ w = w' := by
  go_enter Try.func45, Try.ntmps45
  go_wp2
  go_ret
  exact ⟨rfl, rfl⟩
theorem nanS_any (x : List UInt8) (w : World) : Calls Try.prog 44 #[.string (bs x)] w fun e w' => e = .returned (.bool false) ∧ w = w' := by
  go_enter Try.func44, Try.ntmps44
  go_wp2
  go_ret
  exact ⟨rfl, rfl⟩
def c3 (lt gt : Bool) : Int := if lt then -1 else if gt then 1 else 0
set_option maxHeartbeats 1000000 in
theorem cmpI_any (x y : Int) (w : World) : Calls Try.prog 30 #[.int .i64 x, .int .i64 y] w fun e w' => e = .returned (.int .i64 (c3 (decide (x < y)) (decide (y < x)))) ∧ w = w' := by
  have H1 := Lib.hid (fun x w => nanI_any x w)
  by_cases h1 : x < y
  · have p1 : decide (x < y) = true := decide_eq_true h1
    clear h1
    go_enter Try.func30, Try.ntmps30
    go_wp2_with (first | (go_at_call 43; refine (H1.out _ _).mono ?_; rintro e w' ⟨rfl, rfl⟩))
    go_ret
    exact ⟨by rw [p1]; rfl, rfl⟩
  · have p1 : decide (x < y) = false := decide_eq_false h1
    by_cases h2 : y < x
    · have p2 : decide (y < x) = true := decide_eq_true h2
      clear h1 h2
      go_enter Try.func30, Try.ntmps30
      go_wp2_with (first | (go_at_call 43; refine (H1.out _ _).mono ?_; rintro e w' ⟨rfl, rfl⟩))
      go_ret
      exact ⟨by rw [p1, p2]; rfl, rfl⟩
    · have p2 : decide (y < x) = false := decide_eq_false h2
      clear h1 h2
      go_enter Try.func30, Try.ntmps30
      go_wp2_with (first | (go_at_call 43; refine (H1.out _ _).mono ?_; rintro e w' ⟨rfl, rfl⟩))
      go_ret
      exact ⟨by rw [p1, p2]; rfl, rfl⟩
set_option maxHeartbeats 1000000 in
theorem cmpU_any (x y : Nat) (w : World) : Calls Try.prog 32 #[.int .u64 x, .int .u64 y] w fun e w' => e = .returned (.int .i64 (c3 (decide (x < y)) (decide (y < x)))) ∧ w = w' := by
  have H1 := Lib.hid (fun x w => nanU_any x w)
  by_cases h1 : x < y
  · have p1 : decide (x < y) = true := decide_eq_true h1
    clear h1
    go_enter Try.func32, Try.ntmps32
    go_wp2_with (first | (go_at_call 45; refine (H1.out _ _).mono ?_; rintro e w' ⟨rfl, rfl⟩))
    go_ret
    exact ⟨by rw [p1]; rfl, rfl⟩
  · have p1 : decide (x < y) = false := decide_eq_false h1
    by_cases h2 : y < x
    · have p2 : decide (y < x) = true := decide_eq_true h2
      clear h1 h2
      go_enter Try.func32, Try.ntmps32
      go_wp2_with (first | (go_at_call 45; refine (H1.out _ _).mono ?_; rintro e w' ⟨rfl, rfl⟩))
      go_ret
      exact ⟨by rw [p1, p2]; rfl, rfl⟩
    · have p2 : decide (y < x) = false := decide_eq_false h2
      clear h1 h2
      go_enter Try.func32, Try.ntmps32
      go_wp2_with (first | (go_at_call 45; refine (H1.out _ _).mono ?_; rintro e w' ⟨rfl, rfl⟩))
      go_ret
      exact ⟨by rw [p1, p2]; rfl, rfl⟩
set_option maxHeartbeats 1000000 in
theorem cmpS_any (x y : List UInt8) (w : World) : Calls Try.prog 31 #[.string (bs x), .string (bs y)] w fun e w' => e = .returned (.int .i64 (c3 (decide (x < y)) (decide (y < x)))) ∧ w = w' := by
  have H1 := Lib.hid (fun x w => nanS_any x w)
  have b1 := bless_txt x y
  have b2 := bless_txt y x
  by_cases h1 : x < y
  · have p1 : decide (x < y) = true := decide_eq_true h1
    rw [p1] at b1
    clear h1 b2
    have P1 := Lib.hid p1
    clear p1
    go_enter Try.func31, Try.ntmps31
    go_wp2_with (first | (go_at_call 44; refine (H1.out _ _).mono ?_; rintro e w' ⟨rfl, rfl⟩))
    go_ret
    exact ⟨by rw [P1.out]; rfl, rfl⟩
  · have p1 : decide (x < y) = false := decide_eq_false h1
    rw [p1] at b1
    by_cases h2 : y < x
    · have p2 : decide (y < x) = true := decide_eq_true h2
      have q2 : ((bs x).toList == (bs y).toList) = false := by
        rw [bs_list, bs_list]
        exact beq_false_of_ne fun e => h1 (e ▸ absurd h2 (e ▸ h1))
      have P1 := Lib.hid p1
      have P2 := Lib.hid p2
      clear h1 h2 p1 p2 b2
      go_enter Try.func31, Try.ntmps31
      go_wp2_with (first | (go_at_call 44; refine (H1.out _ _).mono ?_; rintro e w' ⟨rfl, rfl⟩))
      go_ret
      exact ⟨by rw [P1.out, P2.out]; rfl, rfl⟩
    · have p2 : decide (y < x) = false := decide_eq_false h2
      obtain rfl : x = y := by
        rcases txtL.tri x y with h | h | h
        · exact absurd h h1
        · exact h
        · exact absurd h h2
      have P1 := Lib.hid p1
      clear h1 h2 p1 p2 b2
      go_enter Try.func31, Try.ntmps31
      go_wp2_with (first | (go_at_call 44; refine (H1.out _ _).mono ?_; rintro e w' ⟨rfl, rfl⟩))
      go_ret
      exact ⟨by rw [P1.out]; rfl, rfl⟩
/-- The first that is not nought. -/
def orr : List Int → Int
  | [] => 0
  | x :: xs => if x = 0 then orr xs else x
theorem drop_at {α : Type} {l : List α} {i : Nat} {x : α} (h : l[i]? = some x) : l.drop i = x :: l.drop (i + 1) := by
  obtain ⟨h3, rfl⟩ := List.getElem?_eq_some_iff.1 h
  exact List.drop_eq_getElem_cons h3
set_option maxHeartbeats 2000000 in
theorem or_any (A : Option Addr) (c : Nat) (xs : List Int) (w : World) (hx : Ints w A c xs) (hn : xs.length ≤ 1000000) :
    Calls Try.prog 29 #[.slice A xs.length c] w fun e w' => e = .returned (.int .i64 (orr xs)) ∧ w = w' := by
  have HX := Lib.hid hx
  clear hx
  go_enter Try.func29, Try.ntmps29
  go_wp2_with fail
  go_loop [8] (fun u => ∃ i : Nat, i ≤ xs.length ∧ u = .int .i64 i ∧ orr xs = orr (xs.drop i)) (fun u => xs.length - (intOf u).toNat)
  case atStart => exact ⟨0, Nat.zero_le _, rfl, rfl⟩
  case round =>
    obtain ⟨i, hil, rfl, hor⟩ := hrel
    by_cases h1 : i < xs.length
    · obtain ⟨g, o, x, rfl, hg, hxi, hcell⟩ := HX.out.at_ h1
      rw [drop_at hxi] at hor
      by_cases hx0 : x = 0
      · have q : (x != 0) = false := by simp [hx0]
        have hs := Lib.hid (hor.trans (if_pos hx0))
        clear hxi hor hx0
        go_wp2
        go_round
        case rel => exact ⟨i + 1, by omega, by go_num, hs.out⟩
        case measure => simp [intOf]; omega
      · have q : (x != 0) = true := by simp [hx0]
        have hs := Lib.hid (hor.trans (if_neg hx0))
        clear hxi hor hx0
        go_wp2
        go_ret
        exact ⟨by rw [hs.out]; rfl, rfl⟩
    · rw [List.drop_of_length_le (by omega)] at hor
      have hs := Lib.hid hor
      clear hor
      go_wp2
      go_ret
      exact ⟨by rw [hs.out]; rfl, rfl⟩
/-- What the order says of two values. -/
def cf (a b : Pv) : Int := orr [c3 (decide (a.tag < b.tag)) (decide (b.tag < a.tag)), c3 (decide (a.text < b.text)) (decide (b.text < a.text)), c3 (decide (a.bits < b.bits)) (decide (b.bits < a.bits)),
  c3 (decide (a.cls < b.cls)) (decide (b.cls < a.cls)), c3 (decide (a.name < b.name)) (decide (b.name < a.name)), c3 (decide (a.desc < b.desc)) (decide (b.desc < a.desc))]
theorem c3_lt {α : Type} {lt : α → α → Prop} [DecidableRel lt] (L : Lin lt) (a b : α) : (c3 (decide (lt a b)) (decide (lt b a)) < 0 ↔ lt a b) ∧ (c3 (decide (lt a b)) (decide (lt b a)) = 0 ↔ a = b) := by
  unfold c3
  rcases L.tri a b with h | h | h
  · rw [decide_eq_true h]
    simp [L.ne h, h]
  · subst h
    simp [L.irrefl]
  · rw [decide_eq_true h, decide_eq_false (L.asymm h)]
    simp [L.asymm h, Ne.symm (L.ne h)]
theorem orr_step {α : Type} {lt : α → α → Prop} [DecidableRel lt] (L : Lin lt) (a b : α) (xs : List Int) : orr (c3 (decide (lt a b)) (decide (lt b a)) :: xs) < 0 ↔ lt a b ∨ (a = b ∧ orr xs < 0) := by
  obtain ⟨h1, h2⟩ := c3_lt L a b
  show (if c3 (decide (lt a b)) (decide (lt b a)) = 0 then orr xs else c3 (decide (lt a b)) (decide (lt b a))) < 0 ↔ _
  split
  · rename_i h
    have e := h2.1 h
    subst e
    simp [L.irrefl]
  · rename_i h
    have e : ¬ a = b := fun e => h (h2.2 e)
    simp [e, h1]
theorem cf_lt (a b : Pv) : cf a b < 0 ↔ Pv.lt a b := by
  unfold cf
  rw [orr_step intL, orr_step txtL, orr_step natL, orr_step txtL, orr_step txtL, orr_step txtL]
  simp [orr, Pv.lt, lexL, Pv.key]
set_option maxHeartbeats 4000000 in
set_option maxRecDepth 100000 in
theorem compare_grows (a b : Pv) (w : World) : Calls Try.prog 18 #[vv a, vv b] w fun e w' => e = .returned (.int .i64 (cf a b)) ∧ ∃ q os, w' = Sort.grow (w.drewN q) os := by
  have qa := Lib.hid ((vbox_new w a).keep ((Below.refl _ _).alloc (Nat.le_refl _) (.cells #[.int .i64 b.tag, .string (bs b.text), .int .u64 b.bits, .string (bs b.cls), .string (bs b.name), .string (bs b.desc)] 25)) (vbox_new w a).lt)
  have qb := Lib.hid (vbox_new (w.alloc (.cells #[.int .i64 a.tag, .string (bs a.text), .int .u64 a.bits, .string (bs a.cls), .string (bs a.name), .string (bs a.desc)] 25)) b)
  rw [World.size_alloc] at qb
  unfold vv
  have HW := Lib.hid (show ∃ os, (w.alloc (.cells #[.int .i64 a.tag, .string (bs a.text), .int .u64 a.bits, .string (bs a.cls), .string (bs a.name), .string (bs a.desc)] 25)).alloc (.cells #[.int .i64 b.tag, .string (bs b.text), .int .u64 b.bits, .string (bs b.cls), .string (bs b.name), .string (bs b.desc)] 25) = Sort.grow w os from
    ⟨_, by rw [Sort.alloc_eq_grow, Sort.alloc_eq_grow, Sort.grow_grow]⟩)
  go_enter Try.func18, Try.ntmps18
  go_wp2_with fail
  generalize (w.alloc (.cells #[.int .i64 a.tag, .string (bs a.text), .int .u64 a.bits, .string (bs a.cls), .string (bs a.name), .string (bs a.desc)] 25)).alloc (.cells #[.int .i64 b.tag, .string (bs b.text), .int .u64 b.bits, .string (bs b.cls), .string (bs b.name), .string (bs b.desc)] 25) = W at HW qa qb ⊢
  obtain ⟨c0, c1, c2, c3', c4, c5⟩ := qa.out.at_
  obtain ⟨d0, d1, d2, d3, d4, d5⟩ := qb.out.at_
  refine wp_region_draw_tail 30 (by kernel_rfl) (by kernel_rfl) ?_
  simp only [List.take_succ_cons, List.take_zero, List.drop_succ_cons, List.drop_zero]
  repeat (go_big_quiet_step ((first | (go_at_call 30; exact (cmpI_any _ _ _).mono fun e w' h => ⟨h.1, _, h.2.symm⟩) | (go_at_call 32; exact (cmpU_any _ _ _).mono fun e w' h => ⟨h.1, _, h.2.symm⟩) | (go_at_call 31; exact (cmpS_any _ _ _).mono fun e w' h => ⟨h.1, _, h.2.symm⟩))))
  refine wpQuiet_nil ?_
  intro q1
  have hcc : cf a b = orr [c3 (decide (a.tag < b.tag)) (decide (b.tag < a.tag)), c3 (decide (a.text < b.text)) (decide (b.text < a.text)), c3 (decide (a.bits < b.bits)) (decide (b.bits < a.bits)),
    c3 (decide (a.cls < b.cls)) (decide (b.cls < a.cls)), c3 (decide (a.name < b.name)) (decide (b.name < a.name)), c3 (decide (a.desc < b.desc)) (decide (b.desc < a.desc))] := rfl
  generalize c3 (decide (a.tag < b.tag)) (decide (b.tag < a.tag)) = r0 at *
  generalize c3 (decide (a.text < b.text)) (decide (b.text < a.text)) = r1 at *
  generalize c3 (decide (a.bits < b.bits)) (decide (b.bits < a.bits)) = r2 at *
  generalize c3 (decide (a.cls < b.cls)) (decide (b.cls < a.cls)) = r3 at *
  generalize c3 (decide (a.name < b.name)) (decide (b.name < a.name)) = r4 at *
  generalize c3 (decide (a.desc < b.desc)) (decide (b.desc < a.desc)) = r5 at *
  have HCC := Lib.hid hcc
  clear hcc c0 c1 c2 c3' c4 c5 d0 d1 d2 d3 d4 d5 qa qb
  go_wp2_with fail
  refine (or_any _ 6 [r0, r1, r2, r3, r4, r5] _ ⟨by simp, fun _ => ⟨W.heap.size, 0, rfl, by simp, fun j x hx => ?_⟩⟩ (by simp)).mono ?_
  · have hb := (blk_facts (heap_alloc_new (W.drewN q1) (.cells #[.int .i64 r0, .int .i64 r1, .int .i64 r2, .int .i64 r3, .int .i64 r4, .int .i64 r5] 3))).1 (0 + j)
    refine Eq.trans hb ?_
    have hj : j < 6 := by simpa using (List.getElem?_eq_some_iff.1 hx).1
    have hr : j = 0 ∨ j = 1 ∨ j = 2 ∨ j = 3 ∨ j = 4 ∨ j = 5 := by omega
    rcases hr with rfl | rfl | rfl | rfl | rfl | rfl <;> (simp at hx; subst hx; rfl)
  · rintro e w2 ⟨rfl, rfl⟩
    go_wp2
    go_ret
    refine ⟨by rw [HCC.out]; rfl, ?_⟩
    obtain ⟨os, hos⟩ := HW.out
    exact ⟨q1, _, by rw [hos, Sort.alloc_eq_grow]; exact Sort.grow_grow (w.drewN q1) os _⟩
theorem grow_below (w : World) (q : Nat) (os : Array Obj) : Below w.heap.size w (Sort.grow (w.drewN q) os) :=
  ⟨rfl, rfl, rfl, by show w.heap.size ≤ (w.heap ++ os).size; simp, fun k hk => by show (w.heap ++ os)[k]? = _; rw [Array.getElem?_append_left hk]⟩
theorem compare_any (a b : Pv) (w : World) : Calls Try.prog 18 #[vv a, vv b] w fun e w' => e = .returned (.int .i64 (cf a b)) ∧ Below w.heap.size w w' :=
  (compare_grows a b w).mono fun _ _ ⟨h1, q, os, h2⟩ => ⟨h1, h2 ▸ grow_below w q os⟩
end Go.Proofs.Ytekcfjfkbiciaaa
