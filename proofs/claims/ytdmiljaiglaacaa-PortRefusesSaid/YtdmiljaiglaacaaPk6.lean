/- Joined texts: Cmp, Shelf, Sort, Compact, Lib. -/
import Derived.Test.YtdmiljaiglaacaaPk4
import Derived.Test.YtdmiljaiglaacaaPk5
import Derived.Sort.Grow
import Derived.Shelf.SlLaysF0
import Derived.Ground.SlsfProg
import Derived.Test.YtdmiljaiglaacaaProg
import Derived.Shelf.SlSortCmp.NoneTotal
import Derived.Lib.SlicesCompact
import Derived.Deep.LoopGhost
import Derived.Deep.QuietTactic
import Derived.BigQuiet
import Derived.Lib.SliceRun
import Derived.Shelf.Spec.SlicesGrow
import Derived.LoopN
/- The walks of layer 16: values held against each other. -/
namespace Go.Proofs.Ytdmiljaiglaacaa
open Go.RowKit

theorem nanI_any (x : Int) (w : World) : Calls Try.prog 61 #[.int .i64 x] w fun e w' => e = .returned (.bool false) ∧ w = w' := by
  go_enter Try.func61, Try.ntmps61
  go_wp2
  go_ret
  exact ⟨rfl, rfl⟩
theorem nanU_any (x : Int) (w : World) : Calls Try.prog 63 #[.int .u64 x] w fun e w' => e = .returned (.bool false) ∧ w = w' := by
  go_enter Try.func63, Try.ntmps63
  go_wp2
  go_ret
  exact ⟨rfl, rfl⟩
theorem nanS_any (x : List UInt8) (w : World) : Calls Try.prog 62 #[.string (bs x)] w fun e w' => e = .returned (.bool false) ∧ w = w' := by
  go_enter Try.func62, Try.ntmps62
  go_wp2
  go_ret
  exact ⟨rfl, rfl⟩
def c3 (lt gt : Bool) : Int := if lt then -1 else if gt then 1 else 0
set_option maxHeartbeats 1000000 in
theorem cmpI_any (x y : Int) (w : World) : Calls Try.prog 49 #[.int .i64 x, .int .i64 y] w fun e w' => e = .returned (.int .i64 (c3 (decide (x < y)) (decide (y < x)))) ∧ w = w' := by
  have H1 := Lib.hid (fun x w => nanI_any x w)
  by_cases h1 : x < y
  · have p1 : decide (x < y) = true := decide_eq_true h1
    clear h1
    go_enter Try.func49, Try.ntmps49
    go_wp2_with (first | (go_at_call 61; refine (H1.out _ _).mono ?_; rintro e w' ⟨rfl, rfl⟩))
    go_ret
    exact ⟨by rw [p1]; rfl, rfl⟩
  · have p1 : decide (x < y) = false := decide_eq_false h1
    by_cases h2 : y < x
    · have p2 : decide (y < x) = true := decide_eq_true h2
      clear h1 h2
      go_enter Try.func49, Try.ntmps49
      go_wp2_with (first | (go_at_call 61; refine (H1.out _ _).mono ?_; rintro e w' ⟨rfl, rfl⟩))
      go_ret
      exact ⟨by rw [p1, p2]; rfl, rfl⟩
    · have p2 : decide (y < x) = false := decide_eq_false h2
      clear h1 h2
      go_enter Try.func49, Try.ntmps49
      go_wp2_with (first | (go_at_call 61; refine (H1.out _ _).mono ?_; rintro e w' ⟨rfl, rfl⟩))
      go_ret
      exact ⟨by rw [p1, p2]; rfl, rfl⟩
set_option maxHeartbeats 1000000 in
theorem cmpU_any (x y : Nat) (w : World) : Calls Try.prog 51 #[.int .u64 x, .int .u64 y] w fun e w' => e = .returned (.int .i64 (c3 (decide (x < y)) (decide (y < x)))) ∧ w = w' := by
  have H1 := Lib.hid (fun x w => nanU_any x w)
  by_cases h1 : x < y
  · have p1 : decide (x < y) = true := decide_eq_true h1
    clear h1
    go_enter Try.func51, Try.ntmps51
    go_wp2_with (first | (go_at_call 63; refine (H1.out _ _).mono ?_; rintro e w' ⟨rfl, rfl⟩))
    go_ret
    exact ⟨by rw [p1]; rfl, rfl⟩
  · have p1 : decide (x < y) = false := decide_eq_false h1
    by_cases h2 : y < x
    · have p2 : decide (y < x) = true := decide_eq_true h2
      clear h1 h2
      go_enter Try.func51, Try.ntmps51
      go_wp2_with (first | (go_at_call 63; refine (H1.out _ _).mono ?_; rintro e w' ⟨rfl, rfl⟩))
      go_ret
      exact ⟨by rw [p1, p2]; rfl, rfl⟩
    · have p2 : decide (y < x) = false := decide_eq_false h2
      clear h1 h2
      go_enter Try.func51, Try.ntmps51
      go_wp2_with (first | (go_at_call 63; refine (H1.out _ _).mono ?_; rintro e w' ⟨rfl, rfl⟩))
      go_ret
      exact ⟨by rw [p1, p2]; rfl, rfl⟩
set_option maxHeartbeats 1000000 in
theorem cmpS_any (x y : List UInt8) (w : World) : Calls Try.prog 50 #[.string (bs x), .string (bs y)] w fun e w' => e = .returned (.int .i64 (c3 (decide (x < y)) (decide (y < x)))) ∧ w = w' := by
  have H1 := Lib.hid (fun x w => nanS_any x w)
  have b1 := bless_txt x y
  have b2 := bless_txt y x
  by_cases h1 : x < y
  · have p1 : decide (x < y) = true := decide_eq_true h1
    rw [p1] at b1
    clear h1 b2
    have P1 := Lib.hid p1
    clear p1
    go_enter Try.func50, Try.ntmps50
    go_wp2_with (first | (go_at_call 62; refine (H1.out _ _).mono ?_; rintro e w' ⟨rfl, rfl⟩))
    go_ret
    exact ⟨by rw [P1.out]; rfl, rfl⟩
  · have p1 : decide (x < y) = false := decide_eq_false h1
    rw [p1] at b1
    by_cases h2 : y < x
    · have p2 : decide (y < x) = true := decide_eq_true h2
      have q2 : ((bs x).toList == (bs y).toList) = false := by
        rw [bs_list, bs_list]
        exact beq_false_of_ne fun e => h1 (e ▸ absurd h2 (e ▸ h1))
      have P1 := Lib.hid p1
      have P2 := Lib.hid p2
      clear h1 h2 p1 p2 b2
      go_enter Try.func50, Try.ntmps50
      go_wp2_with (first | (go_at_call 62; refine (H1.out _ _).mono ?_; rintro e w' ⟨rfl, rfl⟩))
      go_ret
      exact ⟨by rw [P1.out, P2.out]; rfl, rfl⟩
    · have p2 : decide (y < x) = false := decide_eq_false h2
      obtain rfl : x = y := by
        rcases txtL.tri x y with h | h | h
        · exact absurd h h1
        · exact h
        · exact absurd h h2
      have P1 := Lib.hid p1
      clear h1 h2 p1 p2 b2
      go_enter Try.func50, Try.ntmps50
      go_wp2_with (first | (go_at_call 62; refine (H1.out _ _).mono ?_; rintro e w' ⟨rfl, rfl⟩))
      go_ret
      exact ⟨by rw [P1.out]; rfl, rfl⟩
/-- The first that is not nought. -/
def orr : List Int → Int
  | [] => 0
  | x :: xs => if x = 0 then orr xs else x
theorem drop_at {α : Type} {l : List α} {i : Nat} {x : α} (h : l[i]? = some x) : l.drop i = x :: l.drop (i + 1) := by
  obtain ⟨h3, rfl⟩ := List.getElem?_eq_some_iff.1 h
  exact List.drop_eq_getElem_cons h3
set_option maxHeartbeats 2000000 in
theorem or_any (A : Option Addr) (c : Nat) (xs : List Int) (w : World) (hx : Ints w A c xs) (hn : xs.length ≤ 1000000) :
    Calls Try.prog 48 #[.slice A xs.length c] w fun e w' => e = .returned (.int .i64 (orr xs)) ∧ w = w' := by
  have HX := Lib.hid hx
  clear hx
  go_enter Try.func48, Try.ntmps48
  go_wp2_with fail
  go_loop [8] (fun u => ∃ i : Nat, i ≤ xs.length ∧ u = .int .i64 i ∧ orr xs = orr (xs.drop i)) (fun u => xs.length - (intOf u).toNat)
  case atStart => exact ⟨0, Nat.zero_le _, rfl, rfl⟩
  case round =>
    obtain ⟨i, hil, rfl, hor⟩ := hrel
    by_cases h1 : i < xs.length
    · obtain ⟨g, o, x, rfl, hg, hxi, hcell⟩ := HX.out.at_ h1
      rw [drop_at hxi] at hor
      by_cases hx0 : x = 0
      · have q : (x != 0) = false := by simp [hx0]
        have hs := Lib.hid (hor.trans (if_pos hx0))
        clear hxi hor hx0
        go_wp2
        go_round
        case rel => exact ⟨i + 1, by omega, by go_num, hs.out⟩
        case measure => simp [intOf]; omega
      · have q : (x != 0) = true := by simp [hx0]
        have hs := Lib.hid (hor.trans (if_neg hx0))
        clear hxi hor hx0
        go_wp2
        go_ret
        exact ⟨by rw [hs.out]; rfl, rfl⟩
    · rw [List.drop_of_length_le (by omega)] at hor
      have hs := Lib.hid hor
      clear hor
      go_wp2
      go_ret
      exact ⟨by rw [hs.out]; rfl, rfl⟩
/-- What the order says of two values. -/
def cf (a b : Pv) : Int := orr [c3 (decide (a.tag < b.tag)) (decide (b.tag < a.tag)), c3 (decide (a.text < b.text)) (decide (b.text < a.text)), c3 (decide (a.bits < b.bits)) (decide (b.bits < a.bits)),
  c3 (decide (a.cls < b.cls)) (decide (b.cls < a.cls)), c3 (decide (a.name < b.name)) (decide (b.name < a.name)), c3 (decide (a.desc < b.desc)) (decide (b.desc < a.desc))]
theorem c3_lt {α : Type} {lt : α → α → Prop} [DecidableRel lt] (L : Lin lt) (a b : α) : (c3 (decide (lt a b)) (decide (lt b a)) < 0 ↔ lt a b) ∧ (c3 (decide (lt a b)) (decide (lt b a)) = 0 ↔ a = b) := by
  unfold c3
  rcases L.tri a b with h | h | h
  · rw [decide_eq_true h]
    simp [L.ne h, h]
  · subst h
    simp [L.irrefl]
  · rw [decide_eq_true h, decide_eq_false (L.asymm h)]
    simp [L.asymm h, Ne.symm (L.ne h)]
theorem orr_step {α : Type} {lt : α → α → Prop} [DecidableRel lt] (L : Lin lt) (a b : α) (xs : List Int) : orr (c3 (decide (lt a b)) (decide (lt b a)) :: xs) < 0 ↔ lt a b ∨ (a = b ∧ orr xs < 0) := by
  obtain ⟨h1, h2⟩ := c3_lt L a b
  show (if c3 (decide (lt a b)) (decide (lt b a)) = 0 then orr xs else c3 (decide (lt a b)) (decide (lt b a))) < 0 ↔ _
  split
  · rename_i h
    have e := h2.1 h
    subst e
    simp [L.irrefl]
  · rename_i h
    have e : ¬ a = b := fun e => h (h2.2 e)
    simp [e, h1]
theorem cf_lt (a b : Pv) : cf a b < 0 ↔ Pv.lt a b := by
  unfold cf
  rw [orr_step intL, orr_step txtL, orr_step natL, orr_step txtL, orr_step txtL, orr_step txtL]
  simp [orr, Pv.lt, lexL, Pv.key]
set_option maxHeartbeats 4000000 in
set_option maxRecDepth 100000 in
theorem compare_grows (a b : Pv) (w : World) : Calls Try.prog 26 #[vv a, vv b] w fun e w' => e = .returned (.int .i64 (cf a b)) ∧ ∃ q os, w' = Sort.grow (w.drewN q) os := by
  have qa := Lib.hid ((vbox_new w a).keep ((Below.refl _ _).alloc (Nat.le_refl _) (.cells #[.int .i64 b.tag, .string (bs b.text), .int .u64 b.bits, .string (bs b.cls), .string (bs b.name), .string (bs b.desc)] 28)) (vbox_new w a).lt)
  have qb := Lib.hid (vbox_new (w.alloc (.cells #[.int .i64 a.tag, .string (bs a.text), .int .u64 a.bits, .string (bs a.cls), .string (bs a.name), .string (bs a.desc)] 28)) b)
  rw [World.size_alloc] at qb
  unfold vv
  have HW := Lib.hid (show ∃ os, (w.alloc (.cells #[.int .i64 a.tag, .string (bs a.text), .int .u64 a.bits, .string (bs a.cls), .string (bs a.name), .string (bs a.desc)] 28)).alloc (.cells #[.int .i64 b.tag, .string (bs b.text), .int .u64 b.bits, .string (bs b.cls), .string (bs b.name), .string (bs b.desc)] 28) = Sort.grow w os from
    ⟨_, by rw [Sort.alloc_eq_grow, Sort.alloc_eq_grow, Sort.grow_grow]⟩)
  go_enter Try.func26, Try.ntmps26
  go_wp2_with fail
  generalize (w.alloc (.cells #[.int .i64 a.tag, .string (bs a.text), .int .u64 a.bits, .string (bs a.cls), .string (bs a.name), .string (bs a.desc)] 28)).alloc (.cells #[.int .i64 b.tag, .string (bs b.text), .int .u64 b.bits, .string (bs b.cls), .string (bs b.name), .string (bs b.desc)] 28) = W at HW qa qb ⊢
  obtain ⟨c0, c1, c2, c3', c4, c5⟩ := qa.out.at_
  obtain ⟨d0, d1, d2, d3, d4, d5⟩ := qb.out.at_
  refine wp_region_draw_tail 30 (by kernel_rfl) (by kernel_rfl) ?_
  simp only [List.take_succ_cons, List.take_zero, List.drop_succ_cons, List.drop_zero]
  repeat (go_big_quiet_step ((first | (go_at_call 49; exact (cmpI_any _ _ _).mono fun e w' h => ⟨h.1, _, h.2.symm⟩) | (go_at_call 51; exact (cmpU_any _ _ _).mono fun e w' h => ⟨h.1, _, h.2.symm⟩) | (go_at_call 50; exact (cmpS_any _ _ _).mono fun e w' h => ⟨h.1, _, h.2.symm⟩))))
  refine wpQuiet_nil ?_
  intro q1
  have hcc : cf a b = orr [c3 (decide (a.tag < b.tag)) (decide (b.tag < a.tag)), c3 (decide (a.text < b.text)) (decide (b.text < a.text)), c3 (decide (a.bits < b.bits)) (decide (b.bits < a.bits)),
    c3 (decide (a.cls < b.cls)) (decide (b.cls < a.cls)), c3 (decide (a.name < b.name)) (decide (b.name < a.name)), c3 (decide (a.desc < b.desc)) (decide (b.desc < a.desc))] := rfl
  generalize c3 (decide (a.tag < b.tag)) (decide (b.tag < a.tag)) = r0 at *
  generalize c3 (decide (a.text < b.text)) (decide (b.text < a.text)) = r1 at *
  generalize c3 (decide (a.bits < b.bits)) (decide (b.bits < a.bits)) = r2 at *
  generalize c3 (decide (a.cls < b.cls)) (decide (b.cls < a.cls)) = r3 at *
  generalize c3 (decide (a.name < b.name)) (decide (b.name < a.name)) = r4 at *
  generalize c3 (decide (a.desc < b.desc)) (decide (b.desc < a.desc)) = r5 at *
  have HCC := Lib.hid hcc
  clear hcc c0 c1 c2 c3' c4 c5 d0 d1 d2 d3 d4 d5 qa qb
  go_wp2_with fail
  refine (or_any _ 6 [r0, r1, r2, r3, r4, r5] _ ⟨by simp, fun _ => ⟨W.heap.size, 0, rfl, by simp, fun j x hx => ?_⟩⟩ (by simp)).mono ?_
  · have hb := (blk_facts (heap_alloc_new (W.drewN q1) (.cells #[.int .i64 r0, .int .i64 r1, .int .i64 r2, .int .i64 r3, .int .i64 r4, .int .i64 r5] 3))).1 (0 + j)
    refine Eq.trans hb ?_
    have hj : j < 6 := by simpa using (List.getElem?_eq_some_iff.1 hx).1
    have hr : j = 0 ∨ j = 1 ∨ j = 2 ∨ j = 3 ∨ j = 4 ∨ j = 5 := by omega
    rcases hr with rfl | rfl | rfl | rfl | rfl | rfl <;> (simp at hx; subst hx; rfl)
  · rintro e w2 ⟨rfl, rfl⟩
    go_wp2
    go_ret
    refine ⟨by rw [HCC.out]; rfl, ?_⟩
    obtain ⟨os, hos⟩ := HW.out
    exact ⟨q1, _, by rw [hos, Sort.alloc_eq_grow]; exact Sort.grow_grow (w.drewN q1) os _⟩
theorem grow_below (w : World) (q : Nat) (os : Array Obj) : Below w.heap.size w (Sort.grow (w.drewN q) os) :=
  ⟨rfl, rfl, rfl, by show w.heap.size ≤ (w.heap ++ os).size; simp, fun k hk => by show (w.heap ++ os)[k]? = _; rw [Array.getElem?_append_left hk]⟩
theorem compare_any (a b : Pv) (w : World) : Calls Try.prog 26 #[vv a, vv b] w fun e w' => e = .returned (.int .i64 (cf a b)) ∧ Below w.heap.size w w' :=
  (compare_grows a b w).mono fun _ _ ⟨h1, q, os, h2⟩ => ⟨h1, h2 ▸ grow_below w q os⟩
end Go.Proofs.Ytdmiljaiglaacaa

/- slices.SortFunc over values: the shelf's contracts at this program (as the kit's lay-shelf and lay-plain wrote it for one seat; here by names). -/
namespace Go.Proofs
open Go.Shelf
def Try.sortA_ren : Go.Shelf.Ren := ⟨fun | 6 => 46 | 15 => 60 | 14 => 59 | 28 => 74 | 29 => 75 | 20 => 66 | 21 => 67 | 22 => 68 | 23 => 69 | 24 => 70 | 25 => 71 | 26 => 72 | 27 => 73 | 46 => 77 | 47 => 78 | 48 => 79 | 49 => 80 | 50 => 81 | 57 => 82 | n => n, fun | 22 => 25 | 24 => 28 | 25 => 62 | 3 => 3 | 39 => 31 | 0 => 0 | 53 => 118 | 55 => 26 | 4 => 4 | 46 => 112 | 45 => 111 | 50 => 77 | 5 => 5 | 9 => 9 | 66 => 121 | 70 => 47 | 76 => 126 | 77 => 127 | n => n, fun | n => n⟩
theorem Try.sortA : Go.Proofs.SlLaysF0.n6 Try.prog Try.sortA_ren := {
  mixed := by kernel_rfl
  f6 := ⟨Try.f46.name, by decide, Try.func46.trans (congrArg some (by kernel_rfl))⟩
  f14 := ⟨Try.f59.name, by decide, Try.func59.trans (congrArg some (by kernel_rfl))⟩
  f15 := Try.func60.trans (congrArg some (by kernel_rfl))
  f20 := ⟨Try.f66.name, by decide, Try.func66.trans (congrArg some (by kernel_rfl))⟩
  f21 := ⟨Try.f67.name, by decide, Try.func67.trans (congrArg some (by kernel_rfl))⟩
  f22 := ⟨Try.f68.name, by decide, Try.func68.trans (congrArg some (by kernel_rfl))⟩
  f23 := ⟨Try.f69.name, by decide, Try.func69.trans (congrArg some (by kernel_rfl))⟩
  f24 := ⟨Try.f70.name, by decide, Try.func70.trans (congrArg some (by kernel_rfl))⟩
  f25 := ⟨Try.f71.name, by decide, Try.func71.trans (congrArg some (by kernel_rfl))⟩
  f26 := ⟨Try.f72.name, by decide, Try.func72.trans (congrArg some (by kernel_rfl))⟩
  f27 := ⟨Try.f73.name, by decide, Try.func73.trans (congrArg some (by kernel_rfl))⟩
  f28 := Try.func74.trans (congrArg some (by kernel_rfl))
  f29 := Try.func75.trans (congrArg some (by kernel_rfl))
  f46 := ⟨Try.f77.name, by decide, Try.func77.trans (congrArg some (by kernel_rfl))⟩
  f47 := Try.func78.trans (congrArg some (by kernel_rfl))
  f48 := Try.func79.trans (congrArg some (by kernel_rfl))
  f49 := ⟨Try.f80.name, by decide, Try.func80.trans (congrArg some (by kernel_rfl))⟩
  f50 := ⟨Try.f81.name, by decide, Try.func81.trans (congrArg some (by kernel_rfl))⟩
  f57 := ⟨Try.f82.name, by decide, Try.func82.trans (congrArg some (by kernel_rfl))⟩
  t0 := Try.underlying0
  a0 := Try.isAgg0
  z0 := Try.sizeOf0
  v0 := Try.zeroValue0
  t3 := Try.underlying3
  a3 := Try.isAgg3
  z3 := Try.sizeOf3
  v3 := Try.zeroValue3
  t4 := Try.underlying4
  a4 := Try.isAgg4
  z4 := Try.sizeOf4
  v4 := Try.zeroValue4
  t5 := Try.underlying5
  a5 := Try.isAgg5
  z5 := Try.sizeOf5
  v5 := Try.zeroValue5
  t9 := Try.underlying9
  a9 := Try.isAgg9
  z9 := Try.sizeOf9
  v9 := Try.zeroValue9
  t22 := Try.underlying25
  a22 := Try.isAgg25
  z22 := Try.sizeOf25
  v22 := Try.zeroValue25
  t25 := Try.underlying62
  a25 := Try.isAgg62
  z25 := Try.sizeOf62
  v25 := Try.zeroValue62
  t39 := Try.underlying31
  a39 := Try.isAgg31
  z39 := Try.sizeOf31
  v39 := Try.zeroValue31
  t45 := Try.underlying111
  a45 := Try.isAgg111
  z45 := Try.sizeOf111
  v45 := Try.zeroValue111
  t46 := Try.underlying112
  a46 := Try.isAgg112
  z46 := Try.sizeOf112
  v46 := Try.zeroValue112
  t50 := Try.underlying77
  a50 := Try.isAgg77
  z50 := Try.sizeOf77
  v50 := Try.zeroValue77
  t53 := Try.underlying118
  a53 := Try.isAgg118
  z53 := Try.sizeOf118
  v53 := Try.zeroValue118
  t55 := Try.underlying26
  a55 := Try.isAgg26
  z55 := Try.sizeOf26
  v55 := Try.zeroValue26
  t66 := Try.underlying121
  a66 := Try.isAgg121
  z66 := Try.sizeOf121
  v66 := Try.zeroValue121
  t70 := Try.underlying47
  a70 := Try.isAgg47
  z70 := Try.sizeOf47
  v70 := Try.zeroValue47
  t76 := Try.underlying126
  a76 := Try.isAgg126
  z76 := Try.sizeOf126
  v76 := Try.zeroValue126
  t77 := Try.underlying127
  a77 := Try.isAgg127
  z77 := Try.sizeOf127
  v77 := Try.zeroValue127 }
end Go.Proofs

/- The walk of the library: a row of values sorted by pool.Compare. -/
namespace Go.Proofs.Ytdmiljaiglaacaa
open Go.RowKit Go.Sort

instance : Inhabited Pv := ⟨Pv.zero⟩
def encV (x : Pv) : List Value := vc [x]
theorem encV_len (x : Pv) : (encV x).length = 6 := rfl
theorem flat_vc (l : List Pv) : flatK encV 6 l.toArray = (vc l).toArray := by
  refine ext_get! (by simp [vc_length]) fun t ht => ?_
  have ht' : t < l.length * 6 := by simpa using ht
  rw [get_flatK _ _ _ _ (by simpa using ht')]
  have hi : t / 6 < l.length := by omega
  have hx : l[t / 6]? = some l[t / 6] := List.getElem?_eq_getElem hi
  have e1 : l.toArray[t / 6]! = l[t / 6] := by simp [hi]
  rw [e1]
  generalize l[t / 6] = x at hx
  obtain ⟨p0, p1, p2, p3, p4, p5⟩ := vc_get hx
  have fin : ∀ k, t % 6 = k → t = t / 6 * 6 + k := fun k hk => by omega
  have out : ∀ v, (vc l)[t]? = some v → (vc l).toArray[t]! = v := fun v hv => by simp [Array.getElem!_eq_getD, Array.getD_eq_getD_getElem?, hv]
  have hr : t % 6 = 0 ∨ t % 6 = 1 ∨ t % 6 = 2 ∨ t % 6 = 3 ∨ t % 6 = 4 ∨ t % 6 = 5 := by omega
  rcases hr with e | e | e | e | e | e
  · have e2 := fin _ e; rw [Nat.add_zero] at e2; rw [e, out _ (by rw [e2]; exact p0)]; rfl
  · have e2 := fin _ e; rw [e, out _ (by rw [e2]; exact p1)]; rfl
  · have e2 := fin _ e; rw [e, out _ (by rw [e2]; exact p2)]; rfl
  · have e2 := fin _ e; rw [e, out _ (by rw [e2]; exact p3)]; rfl
  · have e2 := fin _ e; rw [e, out _ (by rw [e2]; exact p4)]; rfl
  · have e2 := fin _ e; rw [e, out _ (by rw [e2]; exact p5)]; rfl
theorem swoV : SWO (ltOf cf) where
  irrefl x := by
    unfold ltOf
    exact decide_eq_false fun h => Pv.lin.irrefl x ((cf_lt x x).1 h)
  trans x y z h1 h2 := by
    unfold ltOf at *
    rw [decide_eq_true_eq, cf_lt] at *
    exact Pv.lin.trans _ _ _ h1 h2
  ntrans x y z h1 h2 := by
    unfold ltOf at *
    rw [decide_eq_false_iff_not, cf_lt] at *
    intro h
    rcases Pv.lin.tri x y with a | a | a
    · exact h1 a
    · subst a; exact h2 h
    · exact h2 (Pv.lin.trans _ _ _ a h)
theorem sortK_block {w : World} {blk off n : Nat} {d : Array Pv} {os : Array Obj} {k : Nat} (h1 : k ≠ blk) (h2 : k < w.heap.size) : (sortWorldK encV 6 w blk off n d os).heap[k]? = w.heap[k]? := by
  unfold sortWorldK
  rw [Sort.heap_grow_old _ _ (by simpa [putRowK, putRow, mapBlock, ahead] using h2)]
  simp [putRowK, Sort.putRow, Sort.mapBlock, Sort.ahead, Array.getElem?_modify, Ne.symm h1]
theorem sortK_grown (w : World) (blk off n : Nat) (d : Array Pv) (os : Array Obj) : w.grownBy (sortWorldK encV 6 w blk off n d os) (some blk) :=
  ⟨rfl, rfl, rfl, by unfold sortWorldK; simp [putRowK, putRow, mapBlock, ahead], fun _ hk hne => sortK_block (fun e => hne (by rw [e])) hk⟩
theorem cmpLays (blk off size : Nat) (w : World) : CmpLays Try.prog 26 #[] encV 6 cf blk off size w := fun _ _ _ _ x y => compare_grows x y _
theorem vhold {w : World} {base g n cap : Nat} {l : List Pv} (h : VRow w base (.slice (some ⟨g, 0, none⟩) n cap) l) : HoldsK encV 6 w g 0 l.toArray := by
  unfold HoldsK
  rw [flat_vc]
  rcases h.2 with ⟨h0, _⟩ | ⟨g', cap', cur, hv, h1, h2, h3, h4, h5, h6⟩
  · cases h0
  · cases hv
    intro j hj
    have hj' : j < (vc l).length := by simpa using hj
    refine ⟨?_, by simp [World.frozen?, h2]⟩
    have hc := World.ownsRow.cells h (g := g) rfl j _ (List.getElem?_eq_getElem hj')
    rw [addr_add] at hc
    rw [hc]
    simp [hj']
theorem vsorted {w : World} {base g cap n m : Nat} {os : Array Obj} {l l' : List Pv} (h : VRow w base (.slice (some ⟨g, 0, none⟩) m cap) l) (hl : l'.length = l.length) (hm : m = l.length) :
    VRow (sortWorldK encV 6 w g 0 n l'.toArray os) base (.slice (some ⟨g, 0, none⟩) m cap) l' := by
  rcases h.2 with ⟨h0, _⟩ | ⟨g', cap', cur, hv, h1, h2, h3, h4, h5, h6⟩
  · cases h0
  · cases hv
    have hg : g < w.heap.size := (Array.getElem?_eq_some_iff.1 h2).1
    have hblk : (sortWorldK encV 6 w g 0 n l'.toArray os).heap[g]? = some (.cells (Sort.putCells id 0 (vc l').toArray cur) 28 (0, 0)) := by
      unfold sortWorldK
      rw [Sort.heap_grow_old _ _ (by simpa [putRowK, putRow, mapBlock, ahead] using hg)]
      unfold putRowK
      rw [flat_vc]
      simp [Sort.putRow, Sort.mapBlock, Sort.ahead, Array.getElem?_modify, h2, Sort.onCells]
    unfold VRow
    rw [hl]
    refine ⟨by rw [vc_length, hl], .inr ⟨g, cap, _, by rw [← hm], h1, hblk, h3, h4, by simp [Sort.putCells, h5], ?_⟩⟩
    apply List.ext_getElem?
    intro j
    have hle : l.length * 6 ≤ cur.size := by rw [h5]; exact Nat.mul_le_mul_right _ h3
    by_cases hj : j < l.length * 6
    · have hj2 : j < (vc l').length := by rw [vc_length, hl]; exact hj
      rw [List.getElem?_take_of_lt hj, Array.getElem?_toList]
      simp [Sort.putCells, hj2, show j < cur.size by omega]
    · rw [List.getElem?_take_eq_none (by omega), List.getElem?_eq_none (by rw [vc_length, hl]; omega)]
set_option maxRecDepth 100000 in
theorem isAggV (w : World) : (isAgg (Try.sortA_ren.t 24)).run Try.prog w = .ok true w := Try.isAgg28 w
set_option maxRecDepth 100000 in
theorem sizeOfV (w : World) : (Go.sizeOf (Try.sortA_ren.t 24)).run Try.prog w = .ok 6 w := Try.sizeOf28 w
set_option maxRecDepth 100000 in
/-- Sorted: the same values, none behind a greater one. -/
theorem sort_any (base : Nat) (u : Value) (l : List Pv) (w : World) (hx : VRow w base u l) (hn : l.length ≤ 1000000) :
    Calls Try.prog 46 #[u, .func (.func 26) #[] #[]] w fun e w' => ∃ l', e = .returned (.tuple #[]) ∧ VRow w' base u l' ∧ l'.Perm l ∧ l'.Pairwise (fun a b => ¬ Pv.lt b a) ∧ w.grownBy w' u.ownBlock := by
  rcases id hx.2 with ⟨rfl, hn0⟩ | ⟨g, cap, cur, rfl, h1, h2, h3, h4, h5, h6⟩
  · obtain rfl : l = [] := List.eq_nil_of_length_eq_zero hn0
    have := AnyF.slices_SortFunc_none Try.sortA none 0 (.func (.func 26) #[] #[]) w
    refine (show Calls Try.prog 46 _ w _ from this).mono ?_
    rintro e w' ⟨rfl, rfl⟩
    exact ⟨[], rfl, hx, List.Perm.nil, List.Pairwise.nil, World.grownBy.refl _ _⟩
  · have hg : g < w.heap.size := (Array.getElem?_eq_some_iff.1 h2).1
    have hs := AnyQ.slices_SortFunc Try.sortA 6 isAggV sizeOfV encV encV_len (fun x => vc_one [x]) cf swoV 26 #[] g 0 cap l.toArray w (enters_of Try.func26 (by kernel_rfl) rfl) (cmpLays g 0 _ w) (vhold hx) hg (by simp; omega)
    have esz : l.toArray.size = l.length := by simp
    rw [esz] at hs
    refine (show Calls Try.prog 46 _ w _ from hs).mono ?_
    rintro e w' ⟨rfl, d', n, os, hp, hsr, rfl⟩
    have hd1 : d'.size = l.length := by rw [hp.1]; simp
    have hperm : d'.toList.Perm l := by
      have := hp.2.2
      have e1 : d'.extract 0 l.length = d' := by rw [← hd1]; simp
      have e2 : l.toArray.extract 0 l.length = l.toArray := by rw [← esz]; exact Array.extract_size
      rw [e1, e2] at this
      exact this
    refine ⟨d'.toList, rfl, ?_, hperm, ?_, sortK_grown w g 0 n d' os⟩
    · have := vsorted (n := n) (os := os) (l' := d'.toList) hx (by simpa using hd1) rfl
      simpa using this
    · rw [List.pairwise_iff_getElem]
      intro i j hi hj hij
      have hi' : i < d'.size := by simpa using hi
      have hj' : j < d'.size := by simpa using hj
      rw [← hd1] at hsr
      have h := hsr i j (Nat.zero_le _) hij hj'
      unfold ltOf at h
      rw [decide_eq_false_iff_not, cf_lt] at h
      have e1 : d'[i]! = d'.toList[i] := by simp [hi']
      have e2 : d'[j]! = d'.toList[j] := by simp [hj']
      rw [e1, e2] at h
      exact h
end Go.Proofs.Ytdmiljaiglaacaa

/- The walk of the library: equal neighbours of a row of values are struck. -/
namespace Go.Proofs.Ytdmiljaiglaacaa
open Go.RowKit Go.Sort

/-! ### Plain -/
theorem compact_snoc (l : List Pv) (m : Nat) (hm : m < l.length) : Lib.compactUpTo l.toArray (m + 1) = Lib.compactUpTo l.toArray m ++ (if m = 0 ∨ l.toArray[m]! ≠ l.toArray[m - 1]! then [l[m]] else []) := by
  rw [Lib.compactUpTo_succ]
  unfold Lib.keeps
  have e : l.toArray[m]! = l[m] := by simp [hm]
  by_cases h : m = 0 ∨ l.toArray[m]! ≠ l.toArray[m - 1]!
  · rw [if_pos h, decide_eq_true h, if_pos rfl, e]
  · rw [if_neg h, decide_eq_false h]; rfl
/-- Of a row in order each value comes once, in order. -/
theorem compact_rises {l : List Pv} (h : l.Pairwise (fun a b => ¬ Pv.lt b a)) : ∀ m, m ≤ l.length → (Lib.compactUpTo l.toArray m).Pairwise Pv.lt ∧ (∀ x, x ∈ Lib.compactUpTo l.toArray m ↔ x ∈ l.take m) ∧ (0 < m → (Lib.compactUpTo l.toArray m).getLast? = l[m - 1]?)
  | 0, _ => by simp [Lib.compactUpTo]
  | m + 1, hm => by
    obtain ⟨h1, h2, h3⟩ := compact_rises h m (by omega)
    have hm' : m < l.length := by omega
    rw [compact_snoc l m hm']
    have ht : l.take (m + 1) = l.take m ++ [l[m]] := List.take_succ_eq_append_getElem hm'
    have hle : ∀ x ∈ Lib.compactUpTo l.toArray m, ¬ Pv.lt l[m] x := fun x hx => by
      obtain ⟨i, hi, rfl⟩ := List.mem_iff_getElem.1 ((h2 x).1 hx)
      rw [List.length_take] at hi
      rw [List.getElem_take]
      exact List.pairwise_iff_getElem.1 h i m (by omega) hm' (by omega)
    by_cases hk : m = 0 ∨ l.toArray[m]! ≠ l.toArray[m - 1]!
    · rw [if_pos hk]
      refine ⟨List.pairwise_append.2 ⟨h1, by simp, fun a ha b hb => ?_⟩, fun x => by rw [ht, List.mem_append, List.mem_append, h2], fun _ => by simp [hm']⟩
      rw [List.mem_singleton] at hb
      subst hb
      rcases Pv.lin.tri a l[m] with e | e | e
      · exact e
      · exfalso
        rcases Nat.eq_zero_or_pos m with h0 | h0
        · subst h0; simp [Lib.compactUpTo] at ha
        · have hl := h3 h0
          have e1 : l.toArray[m]! = l[m] := by simp [hm']
          have e2 : l.toArray[m - 1]! = l[m - 1] := by simp [show m - 1 < l.length by omega]
          have hne : l[m] ≠ l[m - 1] := by
            rcases hk with hk | hk
            · omega
            · rwa [e1, e2] at hk
          have hlast : l[m - 1] ∈ Lib.compactUpTo l.toArray m := by
            refine List.mem_of_getLast? (hl.trans (List.getElem?_eq_getElem (by omega)))
          -- a is not behind the last one
          have hal : a = l[m - 1] ∨ Pv.lt a l[m - 1] := by
            rw [List.getElem?_eq_getElem (show m - 1 < l.length by omega)] at hl
            obtain ⟨ys, hy⟩ := List.getLast?_eq_some_iff.1 hl
            rw [hy] at ha h1
            rcases List.mem_append.1 ha with ha | ha
            · exact .inr ((List.pairwise_append.1 h1).2.2 a ha _ (by simp))
            · exact .inl (by simpa using ha)
          rcases hal with hal | hal
          · exact hne (by rw [← e, hal])
          · rw [e] at hal
            exact List.pairwise_iff_getElem.1 h (m - 1) m (by omega) hm' (by omega) hal
      · exact absurd e (hle a ha)
    · rw [if_neg hk, List.append_nil]
      have h0 : 0 < m := Nat.pos_of_ne_zero fun e => hk (.inl e)
      have e1 : l.toArray[m]! = l[m] := by simp [hm']
      have e2 : l.toArray[m - 1]! = l[m - 1] := by simp [show m - 1 < l.length by omega]
      have hq : l[m] = l[m - 1] := by
        refine Decidable.byContradiction fun e => hk (.inr ?_)
        rw [e1, e2]; exact e
      have hml : l[m - 1] ∈ l.take m := by
        rw [List.mem_iff_getElem]
        exact ⟨m - 1, by rw [List.length_take]; omega, by rw [List.getElem_take]⟩
      refine ⟨h1, fun x => ?_, fun _ => ?_⟩
      · rw [h2, ht, List.mem_append, List.mem_singleton]
        constructor
        · exact .inl
        · rintro (hx | rfl)
          · exact hx
          · rw [hq]; exact hml
      · rw [h3 h0, Nat.add_sub_cancel, List.getElem?_eq_getElem hm', List.getElem?_eq_getElem (by omega), hq]
theorem compact_sd {l l0 : List Pv} (h : l.Pairwise (fun a b => ¬ Pv.lt b a)) (hp : l.Perm l0) : Lib.compactUpTo l.toArray l.length = sd Pv.lt l0 := by
  obtain ⟨h1, h2, _⟩ := compact_rises h l.length (Nat.le_refl _)
  refine rises_uniq Pv.lin h1 (sd_rises Pv.lin _) fun x => ?_
  rw [h2, List.take_length, sd_mem Pv.lin, hp.mem_iff]
/-! ### The walk -/
theorem vc_take : ∀ (xs : List Pv) (k : Nat), (vc xs).take (k * 6) = vc (xs.take k)
  | [], k => by simp [vc]
  | x :: xs, 0 => by simp [vc]
  | x :: xs, k + 1 => by
    rw [show (k + 1) * 6 = k * 6 + 6 by omega]
    simp [vc, vc_take xs k]
theorem vc_drop : ∀ (xs : List Pv) (k : Nat), (vc xs).drop (k * 6) = vc (xs.drop k)
  | [], k => by simp [vc]
  | x :: xs, 0 => by simp
  | x :: xs, k + 1 => by
    rw [show (k + 1) * 6 = k * 6 + 6 by omega]
    simp [vc, vc_drop xs k]
theorem grownBy_setCells (w : World) (g o : Nat) (vs : List Value) {cur : Array Value} {t : TypeId} {fr : Nat × Nat} (h : w.heap[g]? = some (.cells cur t fr)) (hl : o + vs.length ≤ cur.size) : w.grownBy (w.setCells g o vs) (some g) := by
  rw [setCells_eq_setRow g t fr vs o w cur h hl]
  exact ⟨rfl, rfl, rfl, by simp, fun k _ hne => setRow_other w g k _ (fun hh => hne (by rw [hh]))⟩
/-- One value is laid. -/
theorem VRow.setAt {w : World} {base g n cap : Nat} {xs : List Pv} (h : VRow w base (.slice (some ⟨g, 0, none⟩) n cap) xs) {k : Nat} (hk : k < xs.length) (x : Pv) :
    VRow (w.setCells g (k * 6) (vc [x])) base (.slice (some ⟨g, 0, none⟩) n cap) (xs.set k x) ∧ w.grownBy (w.setCells g (k * 6) (vc [x])) (some g) := by
  rcases h.2 with ⟨h0, _⟩ | ⟨g', cap', cur, hv, h1, h2, h3, h4, h5, h6⟩
  · cases h0
  · cases hv
    have hs : k * 6 + (vc [x]).length ≤ cur.size := by
      rw [vc_length, h5]
      have : (k + 1) * 6 ≤ cap * 6 := Nat.mul_le_mul_right _ (by omega)
      simp only [List.length_cons, List.length_nil]
      omega
    refine ⟨?_, grownBy_setCells w g _ _ h2 hs⟩
    rw [setCells_eq_setRow g 28 (0, 0) (vc [x]) (k * 6) w cur h2 hs]
    have hn : (xs.set k x).length = xs.length := List.length_set ..
    unfold VRow
    rw [hn]
    refine ⟨by rw [vc_length, hn], .inr ⟨g, cap, _, rfl, h1, setRow_heap w g cur _ 28 (0, 0) h2, h3, h4, ?_, ?_⟩⟩
    · simp only [List.size_toArray, List.length_append, List.length_take, List.length_drop, Array.length_toList]
      rw [Nat.min_eq_left (by omega), ← h5]
      omega
    · have e1 : cur.toList.take (k * 6) = vc (xs.take k) := by
        rw [← vc_take, ← h6, List.take_take, Nat.min_eq_left (Nat.mul_le_mul_right _ (by omega))]
      have e2 : xs.set k x = xs.take k ++ [x] ++ xs.drop (k + 1) := by
        rw [List.set_eq_take_append_cons_drop, if_pos hk]
        simp
      have hl1 : (vc (xs.take k) ++ vc [x]).length = (k + 1) * 6 := by
        rw [List.length_append, vc_length, vc_length, List.length_take, Nat.min_eq_left (by omega)]
        simp only [List.length_cons, List.length_nil]
        omega
      show (cur.toList.take (k * 6) ++ vc [x] ++ cur.toList.drop (k * 6 + (vc [x]).length)).take (xs.length * 6) = _
      rw [e1, e2, vc_append, vc_append, ← vc_drop, ← h6, List.drop_take, List.take_append, hl1, List.take_of_length_le (by rw [hl1]; exact Nat.mul_le_mul_right _ (by omega))]
      congr 2
      simp only [vc_length, List.length_cons, List.length_nil]
      congr 1
      omega
/-- The row's head. -/
theorem VRow.head {w : World} {base g n cap : Nat} {xs : List Pv} (h : VRow w base (.slice (some ⟨g, 0, none⟩) n cap) xs) {k : Nat} (hk : k ≤ xs.length) : VRow w base (.slice (some ⟨g, 0, none⟩) k cap) (xs.take k) := by
  rcases h.2 with ⟨h0, _⟩ | ⟨g', cap', cur, hv, h1, h2, h3, h4, h5, h6⟩
  · cases h0
  · cases hv
    have hl : (xs.take k).length = k := by rw [List.length_take]; omega
    unfold VRow
    rw [hl]
    refine ⟨by rw [vc_length, hl], .inr ⟨g, cap, cur, rfl, h1, h2, by omega, h4, h5, ?_⟩⟩
    rw [← vc_take, ← h6, List.take_take, Nat.min_eq_left (Nat.mul_le_mul_right _ hk)]
/-- What lies behind the row's head turns. -/
theorem VRow.tail {w : World} {base g n cap : Nat} {xs : List Pv} (h : VRow w base (.slice (some ⟨g, 0, none⟩) n cap) xs) {m : Nat} (hm : xs.length ≤ m) (vs : List Value) (hv : m * 6 + vs.length ≤ cap * 6) :
    VRow (w.setCells g (m * 6) vs) base (.slice (some ⟨g, 0, none⟩) n cap) xs ∧ w.grownBy (w.setCells g (m * 6) vs) (some g) := by
  rcases h.2 with ⟨h0, _⟩ | ⟨g', cap', cur, hv, h1, h2, h3, h4, h5, h6⟩
  · cases h0
  · cases hv
    have hs : m * 6 + vs.length ≤ cur.size := by rw [h5]; exact hv
    refine ⟨?_, grownBy_setCells w g _ _ h2 hs⟩
    rw [setCells_eq_setRow g 28 (0, 0) vs (m * 6) w cur h2 hs]
    refine ⟨h.1, .inr ⟨g, cap, _, rfl, h1, setRow_heap w g cur _ 28 (0, 0) h2, h3, h4, ?_, ?_⟩⟩
    · simp only [List.size_toArray, List.length_append, List.length_take, List.length_drop, Array.length_toList]
      rw [Nat.min_eq_left (by omega), ← h5]
      omega
    · show (cur.toList.take (m * 6) ++ vs ++ cur.toList.drop (m * 6 + vs.length)).take (xs.length * 6) = _
      have hle : xs.length * 6 ≤ m * 6 := Nat.mul_le_mul_right _ hm
      have hlt : xs.length * 6 ≤ (cur.toList.take (m * 6)).length := by
        rw [List.length_take, Array.length_toList]
        exact Nat.le_min.2 ⟨hle, Nat.le_trans hle (Nat.le_trans (Nat.le_add_right _ _) hs)⟩
      rw [List.append_assoc, List.take_append_of_le_length hlt, List.take_take, Nat.min_eq_left hle, h6]
theorem VRow.blk {w : World} {base g n cap : Nat} {xs : List Pv} (h : VRow w base (.slice (some ⟨g, 0, none⟩) n cap) xs) : ∃ cc, w.heap[g]? = some (.cells cc 28 (0, 0)) ∧ cc.size = cap * 6 := by
  rcases h.2 with ⟨h0, _⟩ | ⟨g', cap', cur, hv, h1, h2, h3, h4, h5, h6⟩
  · cases h0
  · cases hv; exact ⟨cur, h2, h5⟩
theorem zeroCells_one (z : Array Value) (h : ∀ u ∈ z.toList, u.oneCell' = true) (n : Nat) : ∀ u ∈ (Builtin.zeroCells z n).toList, u.oneCell' = true := by
  intro u hu
  unfold Builtin.zeroCells at hu
  simp only [Array.toList_map, List.mem_map, Array.mem_toList_iff, Array.mem_range] at hu
  obtain ⟨i, hi, rfl⟩ := hu
  have h0 : 0 < z.size := by
    rcases Nat.eq_zero_or_pos z.size with e | e
    · rw [e] at hi; omega
    · exact e
  have hlt := Nat.mod_lt i h0
  rw [getElem!_pos z _ hlt]
  exact h _ (by simp)
set_option maxRecDepth 100000 in
theorem run_clear_vals (w : World) (g o n c : Nat) (hn : 0 < n) (hc : ∀ j, j < n * 6 → (w.cell? ⟨g, o + j, none⟩).isSome = true) (hf : ∀ j, j < n * 6 → w.frozen? ⟨g, o + j, none⟩ = false) :
    ∃ vs : List Value, vs.length = n * 6 ∧ ∀ ty, (Builtin.clear_ #[25] ty #[.slice (some ⟨g, o, none⟩) n c]).run Try.prog w = .ok (.tuple #[]) (w.setCells g o vs) := by
  have hz := fun w => Try.zeroValue28 w
  refine ⟨(Builtin.zeroCells (Value.agg #[.int .i64 0, .string ⟨#[]⟩, .int .u64 0, .string ⟨#[]⟩, .string ⟨#[]⟩, .string ⟨#[]⟩]).cells n).toList, by rw [Array.length_toList, size_zeroCells]; rfl, fun ty => ?_⟩
  have hl : (Builtin.zeroCells (Value.agg #[.int .i64 0, .string ⟨#[]⟩, .int .u64 0, .string ⟨#[]⟩, .string ⟨#[]⟩, .string ⟨#[]⟩]).cells n).toList.length = n * 6 := by rw [Array.length_toList, size_zeroCells]; rfl
  have hst := run_storeCells_cells (P := Try.prog) g o (Builtin.zeroCells (Value.agg #[.int .i64 0, .string ⟨#[]⟩, .int .u64 0, .string ⟨#[]⟩, .string ⟨#[]⟩, .string ⟨#[]⟩]).cells n).toList 0 w (by rw [hl]; simpa using hc) (by rw [hl]; simpa using hf) (zeroCells_one _ (vc_one [Pv.zero]) n)
  simp only [Nat.add_zero] at hst
  obtain ⟨m, rfl⟩ : ∃ m, n = m + 1 := ⟨n - 1, by omega⟩
  simp [Builtin.clear_, run_underlying Try.underlying25, hz, hst]
set_option maxRecDepth 100000 in
set_option maxHeartbeats 8000000 in
theorem compact_any (base : Nat) (u : Value) (l : List Pv) (w : World) (hx : VRow w base u l) (hn : l.length ≤ 1000000) :
    Calls Try.prog 57 #[u] w fun e w' => ∃ u', e = .returned u' ∧ VRow w' base u' (Lib.compactUpTo l.toArray l.length) ∧ w.grownBy w' u.ownBlock ∧ u'.ownBlock = u.ownBlock := by
  have HX := Lib.hid hx
  have HE := Lib.hid (fun a b x => eq_val a b x)
  unfold vv at HE
  by_cases h2 : l.length < 2
  · obtain ⟨A, c, rfl, _, _⟩ := hx.reads
    have hall := Lib.hid (show Lib.compactUpTo l.toArray l.length = l by
      rw [Lib.compactUpTo_all _ _ (fun j hj => Lib.keeps_lt_one _ j (by omega))]
      have := Lib.range_map_get l.toArray
      simpa using this)
    have p1 : decide ((l.length : Int) < 2) = true := decide_eq_true (by omega)
    clear h2 hx
    go_enter Try.func57, Try.ntmps57
    go_wp2
    go_ret
    exact ⟨_, rfl, by rw [hall.out]; exact HX.out, World.grownBy.refl _ _, rfl⟩
  · rcases id hx.2 with ⟨rfl, hn0⟩ | ⟨g, cap, cur, rfl, h1, h3, h4, h5, h6, h7⟩
    · omega
    have hV := hx.reads
    obtain ⟨A, c, e, hVv, _⟩ := hV
    cases e
    have HV := Lib.hid hVv
    have p1 : decide ((l.length : Int) < 2) = false := decide_eq_false (by omega)
    clear hVv hx h7
    go_enter Try.func57, Try.ntmps57
    go_wp2_with fail
    go_loopg [3] l.length (fun g3 s3 wr => ∃ k : Nat, 1 ≤ k ∧ k ≤ l.length ∧ l.length - k ≤ g3 ∧ s3 = .int .i64 k ∧ (∃ q, wr = w.drewN q) ∧ ∀ j, j < k → Lib.keeps l.toArray j = true)
    case atStart => exact ⟨1, Nat.le_refl _, by omega, by omega, rfl, ⟨0, rfl⟩, Lib.keeps_lt_one _⟩
    case round =>
      obtain ⟨k, hk1, hk, hg, rfl, ⟨q, rfl⟩, hall⟩ := hrel
      have HA := Lib.hid hall
      clear hall
      by_cases hlt : k < l.length
      · obtain ⟨g1, o1, x, e1, hg1, hxk, c0, c1, c2, c3, c4, c5⟩ := HV.out.at_ hlt
        cases e1
        obtain ⟨g2, o2, y, e2, hg2, hyk, d0, d1, d2, d3, d4, d5⟩ := HV.out.at_ (i := k - 1) (by omega)
        cases e2
        have q1 : decide ((k : Int) < (l.length : Int)) = true := decide_eq_true (by omega)
        have q2 : decide (k < l.length) = true := decide_eq_true hlt
        have q3 : (k : Int) - 1 = ((k - 1 : Nat) : Int) := by omega
        have q4 : decide (k - 1 < l.length) = true := decide_eq_true (by omega)
        simp only [Nat.zero_add] at c0 c1 c2 c3 c4 c5 d0 d1 d2 d3 d4 d5
        have B := Lib.hid (show l.toArray[k]! = x ∧ l.toArray[k - 1]! = y by
          obtain ⟨a1, a2⟩ := List.getElem?_eq_some_iff.1 hxk
          obtain ⟨a3, a4⟩ := List.getElem?_eq_some_iff.1 hyk
          exact ⟨by rw [← a2]; simp [hlt], by rw [← a4]; simp [show k - 1 < l.length by omega]⟩)
        clear hxk hyk
        by_cases e : x = y
        · have he := fun z => (HE.out x y z).trans (by rw [decide_eq_true e])
          have HD := Lib.hid (Lib.keeps_neg (d := l.toArray) (m := k) (by omega) (by rw [B.out.1, B.out.2, e]))
          clear e
          go_wp2_with fail
          go_quiet (fail)
          go_wp2_with fail
          have HST := Lib.hid (show ∃ (kk k2 : Nat) (dk : Array Pv), 1 ≤ k2 ∧ k + k2 ≤ l.length ∧ l.length - (k + k2) ≤ l.length ∧ (Value.int .i64 k) = .int .i64 kk ∧ (Value.int .i64 1) = .int .i64 k2 ∧ VRow (w.drewN (q + nq)) base (.slice (some ⟨g, 0, none⟩) l.length cap) dk.toList ∧ Lib.CompInv l.toArray (k + k2) kk dk ∧ w.grownBy (w.drewN (q + nq)) (some g) from
            ⟨k, 1, l.toArray, Nat.le_refl _, by omega, by omega, rfl, rfl, HX.out, Lib.CompInv.start HA.out HD.out, ⟨rfl, rfl, rfl, Nat.le_refl _, fun _ _ _ => rfl⟩⟩)
          clear c0 c1 c2 c3 c4 c5 d0 d1 d2 d3 d4 d5 he
          go_loopg [3, 5] l.length (fun g4 s3 s5 wx => ∃ (kk k2 : Nat) (dk : Array Pv), 1 ≤ k2 ∧ k + k2 ≤ l.length ∧ l.length - (k + k2) ≤ g4 ∧ s3 = .int .i64 kk ∧ s5 = .int .i64 k2 ∧ VRow wx base (.slice (some ⟨g, 0, none⟩) l.length cap) dk.toList ∧ Lib.CompInv l.toArray (k + k2) kk dk ∧ w.grownBy wx (some g))
          case atStart => exact HST.out
          case round =>
            clear HST
            obtain ⟨kk, k2, dk, h21, hk2, hg4, rfl, rfl, hrow, hI, hgr⟩ := hrel
            have HR := Lib.hid hrow
            have HI := Lib.hid hI
            have HG := Lib.hid hgr
            have hkk := hI.lt
            have hds : dk.size = l.length := by have := hI.size; simpa using this
            have hdl : dk.toList.length = l.length := by simpa using hds
            clear hrow hI hgr
            have hv2 : Vals wr (some ⟨g, 0, none⟩) cap dk.toList := HR.out.vals
            by_cases hlt2 : k + k2 < l.length
            · obtain ⟨g1, o1, x2, e1, hg1, hxm, c0, c1, c2, c3, c4, c5⟩ := hv2.at_ (i := k + k2) (by omega)
              cases e1
              obtain ⟨g2, o2, y2, e2, hg2, hym, d0, d1, d2, d3, d4, d5⟩ := hv2.at_ (i := k + (k2 - 1)) (by omega)
              cases e2
              obtain ⟨g3, o3, z2, e3, hg3, hzm, f0, f1, f2, f3, f4, f5⟩ := hv2.at_ (i := kk) (by omega)
              cases e3
              have C := Lib.hid (show l.toArray[k + k2]! = x2 ∧ l.toArray[k + k2 - 1]! = y2 by
                have a1 := HI.out.high (k + k2) (by omega)
                have a2 := HI.out.high (k + k2 - 1) (by omega)
                rw [show k + (k2 - 1) = k + k2 - 1 by omega] at hym
                rw [Array.getElem?_toList] at hxm hym
                obtain ⟨b1, b2⟩ := Array.getElem?_eq_some_iff.1 hxm
                obtain ⟨b3, b4⟩ := Array.getElem?_eq_some_iff.1 hym
                exact ⟨by rw [← a1, getElem!_pos dk _ b1, b2], by rw [← a2, getElem!_pos dk _ b3, b4]⟩)
              have r1 : decide ((k2 : Int) < ((l.length - k : Nat) : Int)) = true := decide_eq_true (by omega)
              have r2 : decide (k2 < l.length - k) = true := decide_eq_true (by omega)
              have r3 : (k2 : Int) - 1 = ((k2 - 1 : Nat) : Int) := by omega
              have r4 : decide (k2 - 1 < l.length - k) = true := decide_eq_true (by omega)
              have r5 : decide (kk < l.length) = true := decide_eq_true (by omega)
              simp only [Nat.zero_add, Nat.add_mul] at c0 c1 c2 c3 c4 c5 d0 d1 d2 d3 d4 d5 f0 f1 f2 f3 f4 f5
              clear hxm hym hzm hv2
              by_cases e : x2 = y2
              · have he := fun z => (HE.out x2 y2 z).trans (by rw [decide_eq_true e])
                have HI2 := Lib.hid (HI.out.skip (Lib.keeps_neg (by omega) (by rw [C.out.1, C.out.2, e])))
                clear e
                go_wp2_with fail
                go_quiet (fail)
                go_wp2_with fail
                go_roundg (l.length - (k + (k2 + 1)))
                case measure => omega
                case rel => exact ⟨kk, k2 + 1, dk, by omega, by omega, Nat.le_refl _, rfl, by go_num, HR.out, HI2.out, ⟨HG.out.os, HG.out.tape, HG.out.output, HG.out.size, HG.out.block⟩⟩
              · have he := fun z => (HE.out x2 y2 z).trans (by rw [decide_eq_false e])
                have HI2 := Lib.hid (HI.out.keep (by simpa using hlt2) (Lib.keeps_pos (by rw [C.out.1, C.out.2]; exact e)))
                obtain ⟨cc, hcc, hcs⟩ := HR.out.blk
                have t0 := (blk_facts hcc).2 (kk * 6)
                have t1 := (blk_facts hcc).2 (kk * 6 + 1)
                have t2 := (blk_facts hcc).2 (kk * 6 + 2)
                have t3 := (blk_facts hcc).2 (kk * 6 + 3)
                have t4 := (blk_facts hcc).2 (kk * 6 + 4)
                have t5 := (blk_facts hcc).2 (kk * 6 + 5)
                clear e hcc hcs
                go_wp2_with fail
                go_quiet (fail)
                have HSA := Lib.hid (VRow.setAt (show VRow (wr.drewN nq) base (.slice (some ⟨g, 0, none⟩) l.length cap) dk.toList from HR.out) (k := kk) (by omega) x2)
                go_wp2_with fail
                have hdk : (dk.setIfInBounds kk l.toArray[k + k2]!).toList = dk.toList.set kk x2 := by rw [C.out.1, Array.toList_setIfInBounds]
                have HDK := Lib.hid hdk
                clear hdk t0 t1 t2 t3 t4 t5
                go_roundg (l.length - (k + (k2 + 1)))
                case measure => omega
                case rel => exact ⟨kk + 1, k2 + 1, _, by omega, by omega, Nat.le_refl _, by go_num, by go_num, by rw [HDK.out]; exact HSA.out.1, HI2.out, grownBy_trans HG.out (show wr.grownBy _ (some g) from ⟨HSA.out.2.os, HSA.out.2.tape, HSA.out.2.output, HSA.out.2.size, HSA.out.2.block⟩) (.inl rfl)⟩
            · have hend : k + k2 = l.length := by omega
              rw [hend] at HI
              have hlen := HI.out.len
              obtain ⟨cc, hcc, hcs⟩ := HR.out.blk
              have hroom : (kk + (l.length - kk)) * 6 ≤ cap * 6 := Nat.mul_le_mul_right _ (by omega)
              obtain ⟨vs, hvs, hcl⟩ := run_clear_vals wr g (kk * 6) (l.length - kk) (cap - kk) (by omega) (fun j hj => by
                rw [(blk_facts hcc).1]; simp; omega) (fun j hj => (blk_facts hcc).2 _)
              have r1 : decide ((k2 : Int) < ((l.length - k : Nat) : Int)) = false := decide_eq_false (by omega)
              have r2 : decide (k2 < l.length - k) = false := decide_eq_false (by omega)
              have HFIN := Lib.hid (show Lib.compactUpTo l.toArray l.length = dk.toList.take kk by
                refine List.ext_getElem? fun j => ?_
                by_cases hj : j < kk
                · rw [HI.out.low j hj, List.getElem?_take_of_lt hj, Array.getElem?_toList, getElem!_pos dk j (by omega), Array.getElem?_eq_getElem (by omega)]
                · rw [List.getElem?_eq_none (by omega), List.getElem?_take_eq_none (by omega)])
              have HH := Lib.hid ((HR.out.head (k := kk) (by omega)).tail (m := kk) (by rw [List.length_take]; omega) vs (by rw [hvs]; have : (kk + (l.length - kk)) * 6 ≤ cap * 6 := hroom; omega))
              have s1 : decide (kk ≤ l.length) = true := decide_eq_true (by omega)
              have s2 : kk ≤ l.length := by omega
              have s3 : kk ≤ cap := by omega
              have s4 : ¬ cap = kk := by omega
              clear hcc hcs hlen hend hv2
              go_wp2
              go_ret
              exact ⟨_, rfl, by rw [HFIN.out]; exact HH.out.1, grownBy_trans HG.out HH.out.2 (.inl rfl), rfl⟩
        · have he := fun z => (HE.out x y z).trans (by rw [decide_eq_false e])
          have HD := Lib.hid (Lib.keeps_pos (d := l.toArray) (m := k) (by rw [B.out.1, B.out.2]; exact e))
          clear e
          go_wp2_with fail
          go_quiet (fail)
          go_wp2_with fail
          go_roundg (l.length - (k + 1))
          case measure => omega
          case rel => exact ⟨k + 1, by omega, by omega, Nat.le_refl _, by go_num, ⟨_, rfl⟩, fun j hj => by
            by_cases ej : j = k
            · subst ej; exact HD.out
            · exact HA.out j (by omega)⟩
      · obtain rfl : k = l.length := by omega
        have q1 : decide ((l.length : Int) < (l.length : Int)) = false := decide_eq_false (by omega)
        have q2 : decide (l.length < l.length) = false := decide_eq_false (by omega)
        have hfin := Lib.hid (show Lib.compactUpTo l.toArray l.length = l by
          rw [Lib.compactUpTo_all _ _ HA.out]
          have := Lib.range_map_get l.toArray
          simpa using this)
        go_wp2
        go_ret
        exact ⟨_, rfl, by rw [hfin.out]; exact HX.out, ⟨rfl, rfl, rfl, Nat.le_refl _, fun _ _ _ => rfl⟩, rfl⟩
end Go.Proofs.Ytdmiljaiglaacaa

/- The walks of the library at rows of values: Clone, Grow of the nil row, Concat of two rows. -/
namespace Go.Proofs.Ytdmiljaiglaacaa
open Go.RowKit Go.Shelf

set_option maxHeartbeats 1000000 in
set_option maxRecDepth 100000 in
theorem clone_any (A : Option Addr) (c : Nat) (l : List Pv) (w : World) (hx : Vals w A c l) (hn : l.length ≤ 1000000000) (hA : A = none → c = 0) :
    Calls Try.prog 21 #[.slice A l.length c] w fun e w' => ∃ u, e = .returned u ∧ VRow w' w.heap.size u l ∧ Below w.heap.size w w' := by
  have HX := Lib.hid hx
  have qn : ∀ (w : World) (a : Option Addr) (n c : Nat), (binOp .eql 25 (.slice a n c) (.slice none 0 0)).run Try.prog w = .ok (.bool a.isNone) w := fun w a n c => Lib.run_eql_slice_nil w _ _ _ _ _ _ _ Try.underlying25
  clear hx
  cases A with
  | none =>
    obtain rfl : l = [] := by
      cases l with
      | nil => rfl
      | cons x l => obtain ⟨g, o, e, _⟩ := HX.out.2 (by simp); cases e
    obtain rfl := hA rfl
    clear hA HX
    go_enter Try.func21, Try.ntmps21
    go_wp2
    go_ret
    exact ⟨_, rfl, VRow.nil _ _, Below.refl _ _⟩
  | some a =>
    clear hA
    go_enter Try.func21, Try.ntmps21
    go_wp2_with (at_builtin; refine wpList_appV rfl _ _ rfl w.heap.size (.slice (some ⟨_, 0, none⟩) 0 0) [] rfl (fresh0 (heap_alloc_new _ _) (Nat.le_refl _)) _ l rfl (HX.out.src ((Below.refl _ _).alloc (Nat.le_refl _) _)) (by simp; omega) (by simp) ?_; intro v1 w1 hr1 hp1)
    have hb1 := Lib.hid (show Below w.heap.size w w1 from Below.trans ((Below.refl _ _).alloc (Nat.le_refl _) _) (hp1.below (by simp) (fun k hk => by cases hk; simp)))
    have HR := Lib.hid hr1
    clear hr1 hp1
    go_ret
    exact ⟨_, rfl, HR.out, hb1.out⟩

def grow_ren : Go.Shelf.Ren := ⟨fun | 4 => 55 | n => n, fun | 0 => 0 | 3 => 3 | 4 => 4 | 9 => 9 | 20 => 20 | 22 => 25 | 25 => 28 | n => n, fun | n => n⟩
theorem grow_lays : Lays8.n4 Try.prog grow_ren := {
  mixed := by kernel_rfl
  f4 := ⟨Try.f55.name, by decide, Try.func55.trans (congrArg some (by kernel_rfl))⟩
  t0 := Try.underlying0
  a0 := Try.isAgg0
  z0 := Try.sizeOf0
  v0 := Try.zeroValue0
  t3 := Try.underlying3
  a3 := Try.isAgg3
  z3 := Try.sizeOf3
  v3 := Try.zeroValue3
  t4 := Try.underlying4
  a4 := Try.isAgg4
  z4 := Try.sizeOf4
  v4 := Try.zeroValue4
  t9 := Try.underlying9
  a9 := Try.isAgg9
  z9 := Try.sizeOf9
  v9 := Try.zeroValue9
  t20 := Try.underlying20
  a20 := Try.isAgg20
  z20 := Try.sizeOf20
  v20 := Try.zeroValue20
  t22 := Try.underlying25
  a22 := Try.isAgg25
  z22 := Try.sizeOf25
  v22 := Try.zeroValue25
}
theorem grow_nil (n : Nat) (w : World) (hn : 0 < n) (hb : n ≤ 100000000) :
    Calls Try.prog 55 #[.slice none 0 0, .int .i64 n] w fun e w' => ∃ u, e = .returned u ∧ VRow w' w.heap.size u [] ∧ Below w.heap.size w w' := by
  obtain ⟨i0, hi, hz0, hz1, hz2⟩ := info_parts infoVal
  refine (Any8.slices_Grow_grow grow_lays i0 _ hi hz0 (by omega) none 0 0 n [] w (Nat.le_refl _) (by omega) (by rw [hz2]; omega) (by omega) (by simp) (fun _ => rfl) (fun a e => by cases e)).mono ?_
  rintro e w' ⟨rfl, rfl⟩
  refine ⟨_, rfl, ⟨rfl, .inr ⟨w.heap.size, _, _, rfl, Nat.le_refl _, heap_alloc_new w.drew _, ?_, ?_, ?_, ?_⟩⟩, ((Below.refl w.heap.size w).drew).alloc (Nat.le_refl _) _⟩
  · exact Nat.zero_le _
  · exact grownCap_le_maxLen _ _ _ _ (by unfold maxLen; omega)
  · have := grownCap_ge w (0 + n) 0 (grow_ren.t 25)
    simp only [List.size_toArray, List.length_nil, Array.size_append, size_zeroCells]
    rw [show (Value.agg #[.int .i64 0, .string ⟨#[]⟩, .int .u64 0, .string ⟨#[]⟩, .string ⟨#[]⟩, .string ⟨#[]⟩]).cells.size = 6 from rfl]
    omega
  · rfl
set_option maxHeartbeats 1000000 in
set_option maxRecDepth 100000 in
theorem grow_zero (w : World) : Calls Try.prog 55 #[.slice none 0 0, .int .i64 0] w fun e w' => ∃ u, e = .returned u ∧ VRow w' w.heap.size u [] ∧ Below w.heap.size w w' := by
  go_enter Try.func55, Try.ntmps55
  go_wp2
  go_ret
  exact ⟨_, rfl, VRow.nil _ _, Below.refl _ _⟩
set_option maxHeartbeats 4000000 in
set_option maxRecDepth 100000 in
theorem concat_any (S : Nat) (A : Option Addr) (c : Nat) (l : List Pv) (B : Option Addr) (d : Nat) (m : List Pv) (w : World) (hS : w.heap[S]? = some (.cells #[.slice A l.length c, .slice B m.length d] 25 (0, 0)))
    (hA : Vals w A c l) (hB : Vals w B d m) (hn : l.length ≤ 1000000) (hm : m.length ≤ 1000000) :
    Calls Try.prog 40 #[.slice (some ⟨S, 0, none⟩) 2 2] w fun e w' => ∃ v, e = .returned v ∧ VRow w' w.heap.size v (l ++ m) ∧ Below w.heap.size w w' := by
  obtain ⟨f1, _⟩ := blk_facts hS
  have c0 : w.cell? ⟨S, 0, none⟩ = some (.slice A l.length c) := f1 0
  have c1 : w.cell? ⟨S, 1, none⟩ = some (.slice B m.length d) := f1 1
  have hSz := (Array.getElem?_eq_some_iff.1 hS).1
  have HS := Lib.hid hS
  have HA := Lib.hid hA
  have HB := Lib.hid hB
  clear f1 hS hA hB
  have q1 : decide ((0 : Int) < 2) = true := rfl
  have q2 : decide ((1 : Int) < 2) = true := rfl
  have q3 : decide ((2 : Int) < 2) = false := rfl
  have q4 : decide ((l.length : Int) + (m.length : Int) < 0) = false := decide_eq_false (by omega)
  have q5 : decide ((l.length : Int) < 0) = false := decide_eq_false (by omega)
  have HG := Lib.hid (show Calls Try.prog 55 #[.slice none 0 0, .int .i64 ((l.length : Int) + (m.length : Int))] w fun e w' => ∃ u, e = .returned u ∧ VRow w' w.heap.size u [] ∧ Below w.heap.size w w' by
    rw [← Int.natCast_add]
    by_cases h0 : l.length + m.length = 0
    · rw [h0]; exact grow_zero w
    · exact grow_nil (l.length + m.length) w (by omega) (by omega))
  go_enter Try.func40, Try.ntmps40
  go_wp2_with fail
  refine wp_loop_rounds 3 ?_
  rw [rounds_succ]; go_wp2_with fail
  rw [rounds_succ]; go_wp2_with fail
  rw [rounds_succ]; go_wp2_with fail
  refine HG.out.mono ?_
  rintro e w1 ⟨u, rfl, hown, hb1⟩
  have hS1 := (hb1.block S hSz).trans HS.out
  obtain ⟨f1, _⟩ := blk_facts hS1
  have e0 : w1.cell? ⟨S, 0, none⟩ = some (.slice A l.length c) := f1 0
  have e1 : w1.cell? ⟨S, 1, none⟩ = some (.slice B m.length d) := f1 1
  have HS1 := Lib.hid hS1
  have HO := Lib.hid hown
  have HB1 := Lib.hid hb1
  have hs1 := hb1.size
  clear f1 hS1 hown hb1 c0 c1 HG
  go_wp2_with fail
  refine wp_loop_rounds 3 ?_
  rw [rounds_succ]
  go_wp2_with (at_builtin; refine wpList_appV rfl _ _ rfl w.heap.size u [] rfl HO.out _ l rfl (HA.out.src HB1.out) (by simp; omega) hs1 ?_; intro v2 w2 hr2 hp2)
  have HB2 := Lib.hid (HB1.out.trans (hp2.below hs1 (fun k hk => HO.out.base_le hk)))
  have hS2 := (HB2.out.block S hSz).trans HS.out
  obtain ⟨f1, _⟩ := blk_facts hS2
  have g0 : w2.cell? ⟨S, 0, none⟩ = some (.slice A l.length c) := f1 0
  have g1 : w2.cell? ⟨S, 1, none⟩ = some (.slice B m.length d) := f1 1
  have HO2 := Lib.hid (show VRow w2 w.heap.size v2 l from hr2)
  have hs2 := HB2.out.size
  clear f1 hS2 hr2 hp2 e0 e1
  go_wp2_with fail
  rw [rounds_succ]
  go_wp2_with (at_builtin; refine wpList_appV rfl _ _ rfl w.heap.size v2 l rfl HO2.out _ m rfl (HB.out.src HB2.out) (by omega) hs2 ?_; intro v3 w3 hr3 hp3)
  have HB3 := Lib.hid (HB2.out.trans (hp3.below hs2 (fun k hk => HO2.out.base_le hk)))
  have HO3 := Lib.hid hr3
  clear hr3 hp3 g0 g1
  go_wp2_with fail
  rw [rounds_succ]
  go_wp2
  go_ret
  exact ⟨_, rfl, HO3.out, HB3.out⟩
end Go.Proofs.Ytdmiljaiglaacaa
