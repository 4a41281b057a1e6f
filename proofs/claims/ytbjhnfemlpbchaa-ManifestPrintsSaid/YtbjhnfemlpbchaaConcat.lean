/- The walks of the library: Grow of the nil row, Concat of two rows. -/
import Derived.Test.YtbjhnfemlpbchaaNest
import Derived.Test.YtbjhnfemlpbchaaBuild
import Derived.Shelf.Spec.SlicesGrow
import Derived.LoopN
namespace Go.Proofs.Ytbjhnfemlpbchaa
open Go.RowKit Go.Shelf

def grow_ren : Go.Shelf.Ren := ⟨fun | 4 => 44 | n => n, fun | 0 => 0 | 3 => 3 | 4 => 4 | 9 => 9 | 20 => 20 | 22 => 25 | 25 => 24 | n => n, fun | n => n⟩
theorem grow_lays : Lays8.n4 Try.prog grow_ren := {
  mixed := by kernel_rfl
  f4 := ⟨Try.f44.name, by decide, Try.func44.trans (congrArg some (by kernel_rfl))⟩
  t0 := Try.underlying0
  a0 := Try.isAgg0
  z0 := Try.sizeOf0
  v0 := Try.zeroValue0
  t3 := Try.underlying3
  a3 := Try.isAgg3
  z3 := Try.sizeOf3
  v3 := Try.zeroValue3
  t4 := Try.underlying4
  a4 := Try.isAgg4
  z4 := Try.sizeOf4
  v4 := Try.zeroValue4
  t9 := Try.underlying9
  a9 := Try.isAgg9
  z9 := Try.sizeOf9
  v9 := Try.zeroValue9
  t20 := Try.underlying20
  a20 := Try.isAgg20
  z20 := Try.sizeOf20
  v20 := Try.zeroValue20
  t22 := Try.underlying25
  a22 := Try.isAgg25
  z22 := Try.sizeOf25
  v22 := Try.zeroValue25
}
theorem grow_nil (n : Nat) (w : World) (hn : 0 < n) (hb : n * 24 ≤ 140737488355328) :
    Calls Try.prog 44 #[.slice none 0 0, .int .i64 n] w fun e w' => ∃ cap, e = .returned (.slice (some ⟨w.heap.size, 0, none⟩) 0 cap) ∧ w'.ownsRow w.heap.size 24 1 (.slice (some ⟨w.heap.size, 0, none⟩) 0 cap) 0 [] ∧ Below w.heap.size w w' := by
  obtain ⟨i0, hi, hz0, hz1, hz2⟩ := info_parts infoPairs
  refine (Any8.slices_Grow_grow grow_lays i0 _ hi hz0 (by omega) none 0 0 n [] w (Nat.le_refl _) (by omega) (by rw [hz2]; omega) (by omega) (by simp) (fun _ => rfl) (fun a e => by cases e)).mono ?_
  rintro e w' ⟨rfl, rfl⟩
  refine ⟨_, rfl, ⟨by simp, .inr ⟨w.heap.size, _, _, rfl, Nat.le_refl _, heap_alloc_new w.drew _, ?_, ?_, ?_, ?_⟩⟩, ((Below.refl w.heap.size w).drew).alloc (Nat.le_refl _) _⟩
  · exact Nat.zero_le _
  · exact grownCap_le_maxLen _ _ _ _ (by unfold maxLen; omega)
  · have := grownCap_ge w (0 + n) 0 (grow_ren.t 25)
    have e : (Value.slice none 0 0).cells.size = 1 := rfl
    simp only [List.size_toArray, List.length_nil, Array.size_append, size_zeroCells, e]
    omega
  · rfl

theorem own_of_block {w : World} {M base : Nat} {e : TypeId} {u : Value} (h : w.heap[M]? = some (.cells #[u] e (0, 0))) (hb : base ≤ M) : w.ownsRow base e 1 (.slice (some ⟨M, 0, none⟩) 1 1) 1 [u] :=
  ⟨rfl, .inr ⟨M, 1, #[u], rfl, hb, h, Nat.le_refl _, by unfold maxLen; omega, rfl, rfl⟩⟩
/-- Values that are rows of headers. -/
def RV (w : World) (vals : List Value) (xs : List (List Pr)) : Prop := vals.length = xs.length ∧ ∀ (j : Nat) u x, vals[j]? = some u → xs[j]? = some x → ∃ B d, u = .slice B x.length d ∧ Prs w B d x
theorem RV.cons {w : World} {vals : List Value} {xs : List (List Pr)} (h : RV w vals xs) {A : Option Addr} {c : Nat} {x : List Pr} (hx : Prs w A c x) : RV w (.slice A x.length c :: vals) (x :: xs) := by
  refine ⟨by simp [h.1], fun j u y hu hy => ?_⟩
  cases j with
  | zero => simp at hu hy; subst hu hy; exact ⟨A, c, rfl, hx⟩
  | succ j => exact h.2 j u y (by simpa using hu) (by simpa using hy)
theorem RV.one {w : World} {vals : List Value} {xs : List (List Pr)} (h : RV w vals xs) : ∀ u ∈ vals, u.oneCell' = true := by
  intro u hu
  obtain ⟨j, hj, rfl⟩ := List.mem_iff_getElem.1 hu
  obtain ⟨B, d, e, _⟩ := h.2 j _ _ (List.getElem?_eq_getElem hj) (List.getElem?_eq_getElem (by rw [← h.1]; exact hj))
  rw [e]; rfl
theorem PNest.src2 {w0 : World} {A : Option Addr} {c : Nat} {xs : List (List Pr)} (h : PNest w0 A c xs) : ∃ vals, RV w0 vals xs ∧ ∀ w, Below w0.heap.size w0 w → Src Try.prog 1 25 (.slice A xs.length c) xs.length vals w := by
  cases xs with
  | nil =>
    cases A with
    | none => exact ⟨[], ⟨rfl, fun j u x hu => by simp at hu⟩, fun w _ => Src.ofNil w Try.underlying25 c⟩
    | some a => exact ⟨[], ⟨rfl, fun j u x hu => by simp at hu⟩, fun w _ => Src.ofSlice w Try.underlying25 a 0 c [] rfl (fun j u hu => by simp at hu) (fun u hu => by cases hu)⟩
  | cons y ys =>
    obtain ⟨g, o, rfl, hg, hc⟩ := h.2 (by simp)
    have key : ∀ (zs : List (List Pr)) (i : Nat), (∀ (j : Nat) x, zs[j]? = some x → ∃ B d, w0.cell? ⟨g, o + (i + j), none⟩ = some (.slice B x.length d) ∧ Prs w0 B d x) → ∃ vals : List Value, RV w0 vals zs ∧ ∀ (j : Nat) u, vals[j]? = some u → w0.cell? ⟨g, o + (i + j), none⟩ = some u := by
      intro zs
      induction zs with
      | nil => intro i _; exact ⟨[], ⟨rfl, fun j u x hu => by simp at hu⟩, fun j u hu => by simp at hu⟩
      | cons z zs ih =>
        intro i hz
        obtain ⟨vals, h1, h2⟩ := ih (i + 1) (fun j x hx => by
          have := hz (j + 1) x (by simpa using hx)
          rwa [show i + (j + 1) = i + 1 + j from by omega] at this)
        obtain ⟨B, d, h3, h4⟩ := hz 0 z rfl
        refine ⟨_, h1.cons h4, fun j u hu => ?_⟩
        cases j with
        | zero => simp at hu; subst hu; exact h3
        | succ j =>
          rw [show i + (j + 1) = i + 1 + j from by omega]
          exact h2 j u (by simpa using hu)
    obtain ⟨vals, h1, h2⟩ := key (y :: ys) 0 (fun j x hx => by rw [Nat.zero_add]; exact hc j x hx)
    refine ⟨vals, h1, fun w k => Src.ofSlice w Try.underlying25 ⟨g, o, none⟩ _ c vals (by rw [h1.1, Nat.mul_one]) (fun j u hu => ?_) h1.one⟩
    have := h2 j u hu
    rw [Nat.zero_add] at this
    rw [addr_add]
    exact (k.cell (p := ⟨g, o + j, none⟩) hg).trans this
theorem PNest.src {w0 w : World} {A : Option Addr} {c : Nat} {xs : List (List Pr)} (h : PNest w0 A c xs) (k : Below w0.heap.size w0 w) : ∃ vals, Src Try.prog 1 25 (.slice A xs.length c) xs.length vals w ∧ RV w0 vals xs :=
  let ⟨vals, h1, h2⟩ := h.src2
  ⟨vals, h2 w k, h1⟩
/-- A row of the call's own of rows of headers that lie lower. -/
def PAll (w0 w : World) (v : Value) (xs : List (List Pr)) : Prop := ∃ vals, w.ownsRow w0.heap.size 24 1 v xs.length vals ∧ RV w0 vals xs
theorem PAll.own {w0 w : World} {v : Value} {xs : List (List Pr)} (h : PAll w0 w v xs) {g : Nat} (hg : v.ownBlock = some g) : w0.heap.size ≤ g ∧ ∃ cur, w.heap[g]? = some (.cells cur 24 (0, 0)) := by
  obtain ⟨vals, h, _⟩ := h
  rcases h.2 with ⟨h, _⟩ | ⟨g', cap, cur, h, h1, hg', _⟩
  · rw [h] at hg; simp [Value.ownBlock] at hg
  · rw [h] at hg
    simp [Value.ownBlock] at hg
    subst hg
    exact ⟨h1, cur, hg'⟩
theorem PAll.kept {w0 w w' : World} {v : Value} {xs : List (List Pr)} (h : PAll w0 w v xs) (hk : ∀ g cur, v.ownBlock = some g → w.heap[g]? = some (.cells cur 24 (0, 0)) → w'.heap[g]? = some (.cells cur 24 (0, 0))) : PAll w0 w' v xs := by
  obtain ⟨vals, ⟨h1, h2⟩, h3⟩ := h
  refine ⟨vals, ⟨h1, ?_⟩, h3⟩
  rcases h2 with h2 | ⟨g, cap, cur, h2, h4, h5, h6⟩
  · exact .inl h2
  · exact .inr ⟨g, cap, cur, h2, h4, hk g cur (by rw [h2]; rfl) h5, h6⟩
theorem PAll.grow {w0 w w' : World} {v : Value} {xs : List (List Pr)} (h : PAll w0 w v xs) (k : Below w.heap.size w w') : PAll w0 w' v xs :=
  h.kept fun g cur _ hg => (k.block g (Array.getElem?_eq_some_iff.1 hg).1).trans hg
theorem PAll.but {w0 w w' : World} {t u : TypeId} {v : Value} {xs : List (List Pr)} (h : PAll w0 w v xs) (k : KeepsBut t u w w') (ht : 24 ≠ t) (hu : 24 ≠ u) : PAll w0 w' v xs :=
  h.kept fun g cur _ hg => k.2 g _ hg fun c fr => ⟨fun e => ht (by injection e), fun e => hu (by injection e)⟩
theorem PAll.low {w0 w w' : World} {B : Nat} {v : Value} {xs : List (List Pr)} (h : PAll w0 w v xs) (k : Below B w w') (hB : ∀ g, v.ownBlock = some g → g < B) : PAll w0 w' v xs :=
  h.kept fun g cur e hg => (k.block g (hB g e)).trans hg
theorem PAll.reads {w0 w : World} {v : Value} {xs : List (List Pr)} (h : PAll w0 w v xs) (h0 : 0 < xs.length) : ∃ g c, v = .slice (some ⟨g, 0, none⟩) xs.length c ∧ w0.heap.size ≤ g ∧ xs.length ≤ c := by
  obtain ⟨vals, k1, _⟩ := h
  rcases k1.2 with ⟨_, h2⟩ | ⟨g, cap, cur, h1, h2, _, h4, _⟩
  · omega
  · exact ⟨g, cap, h1, h2, h4⟩
theorem PAll.at_ {w0 w : World} {g n c : Nat} {xs : List (List Pr)} (h : PAll w0 w (.slice (some ⟨g, 0, none⟩) n c) xs) {i : Nat} (hi : i < xs.length) : ∃ x B d, xs[i]? = some x ∧ g < w.heap.size ∧ w.cell? ⟨g, i, none⟩ = some (.slice B x.length d) ∧ Prs w0 B d x := by
  obtain ⟨vals, k1, k2⟩ := h
  have hl : vals.length = xs.length := k2.1
  obtain ⟨u, hu⟩ : ∃ u, vals[i]? = some u := ⟨_, List.getElem?_eq_getElem (by omega)⟩
  obtain ⟨x, hx⟩ : ∃ x, xs[i]? = some x := ⟨_, List.getElem?_eq_getElem hi⟩
  obtain ⟨B, d, e, hp⟩ := k2.2 i u x hu hx
  have h4 := World.ownsRow.cells k1 (g := g) rfl i u hu
  rw [addr_add, Nat.zero_add] at h4
  exact ⟨x, B, d, hx, (World.ownsRow.lt k1 g rfl).2, by rw [h4, e], hp⟩
/-- 'append([][]api.Pair{main}, parts...)'. -/
theorem wpList_appParts {w0 w : World} {ops : Array Oper} {rest : List Oper} {o : Oper} {a : Act} {Q : Exit → Act → World → Prop} (hgd : o.guard = none) (s x : Operand)
    (ho : o.op = .call { callee := .builtin .append, args := #[s, x], argTypes := #[25, 25] })
    (v X : Value) (old xs : List (List Pr)) (hv : a.eval s = v) (hX : a.eval x = X) (hA : PAll w0 w v old) (hP : ∃ vals, Src Try.prog 1 25 X xs.length vals w ∧ RV w0 vals xs) (hB : Below w0.heap.size w0 w)
    (hn : (old.length + xs.length) * 24 ≤ 140737488355328)
    (h : ∀ v' w', PAll w0 w' v' (old ++ xs) → Hop w w' v.ownBlock v'.ownBlock → Below w0.heap.size w0 w' → wpList Try.prog ops Q rest (a.put o.dst v') w') : wpList Try.prog ops Q (o :: rest) a w := by
  obtain ⟨i0, hi, hz0, hz1, hz2⟩ := info_parts infoPairs
  obtain ⟨vals, h1, h2⟩ := hP
  obtain ⟨olds, k1, k2⟩ := hA
  refine wpList_append_row hgd s x 25 25 ho w0.heap.size 24 i0 _ 1 24 Try.underlying25 hi hz0 hz1 hz2 rfl v _ _ hv k1 _ xs.length vals hX (fun v' w' h3 h4 => h v' w' ⟨olds ++ vals, by rw [List.length_append]; exact h3, by rw [List.length_append, List.length_append, k2.1, h2.1], fun j u y hu hy => ?_⟩ h4 (hB.trans (h4.below hB.size (fun k hk => (World.ownsRow.lt k1 k hk).1)))) h1 ?_ hn hB.size
  · by_cases hj : j < olds.length
    · rw [List.getElem?_append_left hj] at hu
      rw [List.getElem?_append_left (by rw [← k2.1]; exact hj)] at hy
      exact k2.2 j u y hu hy
    · rw [List.getElem?_append_right (by omega)] at hu
      rw [List.getElem?_append_right (by rw [← k2.1]; omega), ← k2.1] at hy
      exact h2.2 _ u y hu hy
  · unfold maxLen; omega

set_option maxHeartbeats 4000000 in
set_option maxRecDepth 100000 in
theorem concat_any (S M : Nat) (A : Option Addr) (c : Nat) (main : List Pr) (B : Option Addr) (d : Nat) (parts : List (List Pr)) (w0 w : World) (hS : w.heap[S]? = some (.cells #[.slice (some ⟨M, 0, none⟩) 1 1, .slice B parts.length d] 25 (0, 0)))
    (hM : w.heap[M]? = some (.cells #[.slice A main.length c] 24 (0, 0))) (hSl : w0.heap.size ≤ S) (hMl : w0.heap.size ≤ M) (hA : Prs w0 A c main) (hB : PNest w0 B d parts) (hW : Below w0.heap.size w0 w) (hn : (parts.length + 1) * 24 ≤ 140737488355328) :
    Calls Try.prog 29 #[.slice (some ⟨S, 0, none⟩) 2 2] w fun e w' => ∃ v, e = .returned v ∧ PAll w0 w' v (main :: parts) ∧ Below w.heap.size w w' := by
  obtain ⟨f1, _⟩ := blk_facts hS
  have c0 : w.cell? ⟨S, 0, none⟩ = some (.slice (some ⟨M, 0, none⟩) 1 1) := f1 0
  have c1 : w.cell? ⟨S, 1, none⟩ = some (.slice B parts.length d) := f1 1
  have hSz := (Array.getElem?_eq_some_iff.1 hS).1
  have hMz := (Array.getElem?_eq_some_iff.1 hM).1
  have HW := Lib.hid hW
  have HM := Lib.hid hM
  have HS := Lib.hid hS
  have HA := Lib.hid hA
  have HB := Lib.hid hB
  clear f1 hS hM hW hA hB
  have q1 : decide ((0 : Int) < 2) = true := rfl
  have q2 : decide ((1 : Int) < 2) = true := rfl
  have q3 : decide ((2 : Int) < 2) = false := rfl
  have q4 : decide ((parts.length : Int) + 1 < 0) = false := decide_eq_false (by omega)
  have q5 : decide (1 + (parts.length : Int) < 0) = false := decide_eq_false (by omega)
  go_enter Try.func29, Try.ntmps29
  go_wp2_with fail
  refine wp_loop_rounds 3 ?_
  rw [rounds_succ]; go_wp2_with fail
  rw [rounds_succ]; go_wp2_with fail
  rw [rounds_succ]; go_wp2_with fail
  have hG := grow_nil (1 + parts.length) w (by omega) (by omega)
  rw [Int.natCast_add] at hG
  refine (show Calls Try.prog 44 #[.slice none 0 0, .int .i64 (1 + (parts.length : Int))] w _ from hG).mono ?_
  rintro e w1 ⟨cap, rfl, hown, hb1⟩
  have hW1 := Lib.hid (Below.after' HW.out hb1 (Nat.le_refl _))
  have hS1 := (hb1.block S hSz).trans HS.out
  have hM1 := (hb1.block M hMz).trans HM.out
  obtain ⟨f1, _⟩ := blk_facts hS1
  have e0 : w1.cell? ⟨S, 0, none⟩ = some (.slice (some ⟨M, 0, none⟩) 1 1) := f1 0
  have e1 : w1.cell? ⟨S, 1, none⟩ = some (.slice B parts.length d) := f1 1
  have HM1 := Lib.hid hM1
  have HS1 := Lib.hid hS1
  have hP0 := Lib.hid (show PAll w0 w1 (.slice (some ⟨w.heap.size, 0, none⟩) 0 cap) [] from by
    refine ⟨[], ?_, rfl, fun j u x hu => by simp at hu⟩
    refine ⟨hown.1, ?_⟩
    rcases hown.2 with ⟨h2, _⟩ | ⟨g, cap, cur, h2, h3, h4⟩
    · cases h2
    · exact .inr ⟨g, cap, cur, h2, Nat.le_trans HW.out.size h3, h4⟩)
  have HB1 := Lib.hid hb1
  have hs1 := hb1.size
  clear f1 hS1 hM1 hown hb1 c0 c1 hG
  go_wp2_with fail
  refine wp_loop_rounds 3 ?_
  rw [rounds_succ]
  go_wp2_with (at_builtin; refine wpList_appParts (w0 := w0) rfl _ _ rfl (.slice (some ⟨w.heap.size, 0, none⟩) 0 cap) (.slice (some ⟨M, 0, none⟩) 1 1) [] [main] rfl rfl hP0.out ⟨[.slice A main.length c], src_block Try.underlying25 1 1 1 _ #[.slice A main.length c] _ _ HM1.out rfl (by simp [Value.oneCell']), RV.cons ⟨rfl, fun j u x hu => by simp at hu⟩ HA.out⟩ hW1.out (by simp only [List.length_cons, List.length_nil]; omega) ?_)
  intro v2 w2 hP2 hhop2 hW2
  (obtain ⟨g2, c2, rfl, hg2, _⟩ := hP2.reads (by simp); have hB2 := hhop2.below (B := w.heap.size) hs1 (fun k e => by simp [Value.ownBlock] at e; omega); have hS2 := (hB2.block S hSz).trans ((HB1.out.block S hSz).trans HS.out); have hg2' : w.heap.size ≤ g2 := (by rcases hhop2.2 with e | ⟨g, hg, e⟩ <;> (simp [Value.ownBlock] at e; omega)); obtain ⟨f1, _⟩ := blk_facts hS2; have e0' : w2.cell? ⟨S, 0, none⟩ = some (.slice (some ⟨M, 0, none⟩) 1 1) := f1 0; have e1' : w2.cell? ⟨S, 1, none⟩ = some (.slice B parts.length d) := f1 1; have HP2 := Lib.hid hP2; have HS2 := Lib.hid hS2; have HB2 := Lib.hid hB2; have HW2 := Lib.hid hW2; clear f1 hS2 hP2 hhop2 hB2 hW2 e0 e1)
  go_wp2_with fail
  rw [rounds_succ]
  go_wp2_with (at_builtin; refine wpList_appParts (w0 := w0) rfl _ _ rfl (.slice (some ⟨g2, 0, none⟩) 1 c2) (.slice B parts.length d) [main] parts rfl rfl HP2.out (HB.out.src HW2.out) HW2.out (by simp only [List.length_cons, List.length_nil]; omega) ?_)
  intro v3 w3 hP3 hhop3 hW3
  (obtain ⟨g3, c3, rfl, hg3, _⟩ := hP3.reads (by simp); have hB3 := hhop3.below (B := w.heap.size) (Nat.le_trans hs1 HB2.out.size) (fun k e => by simp [Value.ownBlock] at e; omega); have HP3 := Lib.hid hP3; have HB3 := Lib.hid hB3; clear hP3 hhop3 hB3 hW3)
  go_wp2_with fail
  rw [rounds_succ]
  go_wp2
  go_ret
  exact ⟨_, rfl, HP3.out, HB1.out.trans (HB2.out.trans HB3.out)⟩
end Go.Proofs.Ytbjhnfemlpbchaa
