/- The walks of the library: the values of a set, collected. -/
import Derived.Test.YtekcfjfkbiciaaaBoxed
import Derived.Test.YtekcfjfkbiciaaaMapV
import Derived.Test.YtekcfjfkbiciaaaROrder
import Derived.RangeFuncSeq
import Derived.Sort.MapsRangeIn
import Derived.Sort.KeysCollected
import Derived.WalkKit
import Derived.OwnWalkIn
import Derived.TacticsInMore
import Derived.RegionIn
import Derived.LoopNIn
import Derived.LoopIn
import Derived.Maps.AppendAt
namespace Go.Proofs.Ytekcfjfkbiciaaa
open Go.RowKit Go.Maps

/-- Which values have come: those that are no longer to come. -/
def CollV (D0 : DataW Unit) (left : Lit → Bool) (ss : List Pv) : Prop := ss.Nodup ∧ (∀ x ∈ ss, x.fitsK) ∧ ∀ x : Pv, x.fitsK → (x ∈ ss ↔ (Maps.has D0 (kv x) = true ∧ left (kv x) = false))
theorem CollV.start (D0 : DataW Unit) : CollV D0 (Maps.has D0) [] := ⟨List.nodup_nil, by simp, fun x _ => by cases Maps.has D0 (kv x) <;> simp⟩
theorem CollV.step {D0 : DataW Unit} {left : Lit → Bool} {ss : List Pv} (h : CollV D0 left ss) {x : Pv} (hx : x.fitsK) {y : DataW Unit} (hlk : left (kv x) = true) (hat : ∀ zd, D0.atKey (kv x) zd = y) : CollV D0 (fun z => left z && !z.sameKey (kv x)) (ss ++ [x]) := by
  obtain ⟨h1, h2, h3⟩ := h
  have hhas : Maps.has D0 (kv x) = true := has_true_of_atKey hat
  have hnew : x ∉ ss := fun hi => by
    have := ((h3 x hx).1 hi).2
    rw [hlk] at this
    cases this
  refine ⟨List.nodup_append.2 ⟨h1, by simp, fun a ha b hb => by simp at hb; subst hb; exact fun e => hnew (e ▸ ha)⟩, fun z hz => ?_, fun z hz => ?_⟩
  · rcases List.mem_append.1 hz with hz | hz
    · exact h2 z hz
    · rw [List.mem_singleton] at hz; subst hz; exact hx
  · rw [List.mem_append, List.mem_singleton, h3 z hz]
    by_cases e : z = x
    · subst e
      have : (kv z).sameKey (kv z) = true := WideAt.sameKey_self (isKeyV z)
      simp [hhas, this]
    · have : (kv z).sameKey (kv x) = false := by
        rw [Bool.eq_false_iff]
        exact fun hs => e (kv_inj hz hx (WideAt.sameKey_eq hs))
      simp [e, this]
/-- All have come. -/
def AllOf (S : Pv → Bool) (ss : List Pv) : Prop := ss.Nodup ∧ (∀ x ∈ ss, x.fitsK) ∧ ∀ x : Pv, x.fitsK → (x ∈ ss ↔ S x = true)
theorem CollV.fin {D0 : DataW Unit} {left : Lit → Bool} {ss : List Pv} {S : Pv → Bool} (h : CollV D0 left ss) (hS : SetIs D0 S) (hl : ∀ kl, left kl = false) : AllOf S ss :=
  ⟨h.1, h.2.1, fun x hx => by rw [h.2.2 x hx, hl, hS.2 x hx]; simp⟩

set_option maxRecDepth 100000 in
set_option maxHeartbeats 2000000 in
/-- The iterator over a set's values. -/
theorem keys1_in (l Bm b nn : Nat) (D0 : DataW Unit) (S : Pv → Bool) (hS : SetIs D0 S) (J : List Pv → World → Prop) (W : World)
    (hY : ∀ pre x X, J pre X → pre.length < Maps.size D0 → YieldAt Fence.wide 1 Try.prog l #[vv x] X fun e X' => e = .returned (.bool true) ∧ J (pre ++ [x]) X' ∧ KeepsWalks X X')
    (hJ : AbidesFrom W.heap.size J) (hm : W.cell? ⟨Bm, 0, none⟩ = some (.map (some b))) (hown : W.ownsMap Try.prog 25 RB b nn D0) (h0 : J [] W) :
    CallsIn Fence.wide 2 Try.prog 28 #[.func (.yield l) #[] #[], .pointer (some ⟨Bm, 0, none⟩)] W fun e W' => (∃ v, e = .returned v) ∧ ∃ ss : List Pv, AllOf S ss ∧ J ss W' := by
  refine callsIn_of_wp Try.func28 rfl trivial ?_ rfl
  simp only [Try.ntmps28, List.size_toArray, List.length_cons, List.length_nil, Nat.reduceAdd, Nat.reduceSub, Array.replicate_succ, Array.replicate_zero, List.push_toArray, List.append_toArray, List.nil_append, List.cons_append]
  gi_wp2_with (first
    | (gi_at_range; refine wpListIn_range_own _ rfl _ 41 rfl 25 4 lawV Try.underlying41 RB b nn _ rfl hown ?_; intro w0 hrg0 hg0 hs0)
    | gi_in)
  go_frame
  gi_loopw [3] (fun _ wr => ∃ (left : Lit → Bool) (cnt : Nat) (ss : List Pv), wr.ranges Try.prog 25 RB b W.heap.size nn D0 left cnt ∧ ss.length + cnt ≤ Maps.size D0 ∧ CollV D0 left ss ∧ J ss wr)
    (fun _ wr => wr.rangeLeft b W.heap.size)
  case atStart =>
    exact ⟨_, _, [], hrg0, by simp, CollV.start D0, hJ [] W w0 none h0 hg0 (fun r e => by cases e)⟩
  case round =>
    obtain ⟨left, cnt, ss, hrg, hcs, hC, hJs⟩ := hrel
    gi_wp2_with (first
      | (gi_at_next; refine wpListIn_next_ranges _ rfl _ rfl 25 lawV RB vv id (fun key kl hk => by obtain ⟨x, _, hx, _⟩ := keyV_inv hk; exact ⟨x, hx⟩) (fun v _ _ => ⟨v, rfl⟩) b W.heap.size nn _ _ _ rfl hrg ?_ ?_)
      | gi_in)
    · intro hc0 hl0
      gi_wp2
      go_end0
      exact ⟨⟨_, rfl⟩, ss, hC.fin hS hl0, hJs⟩
    · intro x c kl yd yp w2 cnt2 hkey hlk hv hat hrg2 hlt hg2 hs2 hen
      obtain ⟨x', hxf, ex, rfl⟩ := keyV_inv hkey
      obtain rfl : x = x' := vv_inj ex
      have hJ2 : J ss w2 := hJ ss wr w2 (some W.heap.size) hJs hg2 (fun r e => by cases e; exact ⟨Nat.le_refl _, hrg.iter_walk⟩)
      have hJ3 : J ss (w2.alloc (.cells #[.int .i64 x.tag, .string (bs x.text), .int .u64 x.bits, .string (bs x.cls), .string (bs x.name), .string (bs x.desc)] 25)) := hJ ss w2 _ none hJ2 (World.grownBy_alloc w2 _ none) (fun r e => by cases e)
      obtain ⟨fn, tmps, assign, body, hy, hR⟩ := hY ss x (w2.alloc (.cells #[.int .i64 x.tag, .string (bs x.text), .int .u64 x.bits, .string (bs x.cls), .string (bs x.name), .string (bs x.desc)] 25)) hJ3 (by omega)
      have hrg3 := hrg2.of_walks (KeepsWalks.alloc w2 (.cells #[.int .i64 x.tag, .string (bs x.text), .int .u64 x.bits, .string (bs x.cls), .string (bs x.name), .string (bs x.desc)] 25))
      clear hs2
      unfold vv at hen hy
      gi_wp2_with fail
      refine hR.mono ?_
      rintro e W3 ⟨rfl, hJ4, hk3⟩
      gi_wp2
      have hrg4 := hrg3.of_walks hk3
      go_roundw
      case rel => exact ⟨_, cnt2, ss ++ [x], hrg4, by simp; omega, hC.step hxf hlk hat, hJ4⟩
      case measure => rw [hrg4.left_eq, hrg.left_eq]; exact hlt
theorem keys_gives (Bm b nn : Nat) (D0 : DataW Unit) (S : Pv → Bool) (hS : SetIs D0 S) (w : World) (hBm : Bm < w.heap.size) (hm : w.cell? ⟨Bm, 0, none⟩ = some (.map (some b))) (hown : w.ownsMap Try.prog 25 RB b nn D0) :
    SeqGives Fence.wide 2 Try.prog 28 #[.pointer (some ⟨Bm, 0, none⟩)] vv (AllOf S) (Maps.size D0) w := fun l J W hW hJ hY h0 => by
  have hown' : W.ownsMap Try.prog 25 RB b nn D0 := hown.kept (grownBy_below hW none) (by simp)
  exact keys1_in l Bm b nn D0 S hS J W hY hJ ((hW.cell (p := ⟨Bm, 0, none⟩) hBm).trans hm) hown' h0
set_option maxRecDepth 100000 in
theorem keys_any (b : Nat) (w : World) : Calls Try.prog 17 #[.map (some b)] w fun e w' => e = .returned (.func (.func 28) #[] #[.pointer (some ⟨w.heap.size, 0, none⟩)]) ∧ w.alloc (.cells #[.map (some b)] 41) = w' := by
  go_enter Try.func17, Try.ntmps17
  go_wp2
  go_ret
  exact ⟨rfl, rfl⟩
/-- append of whatever values onto an own row, within a fence. -/
theorem wpListIn_appV {F : Fence} {nF : Nat} {w : World} {ops : Array Oper} {rest : List Oper} {o : Oper} {a : Act} {Q : Exit → Act → World → Prop} (hgd : o.guard = none) (s x : Operand)
    (ho : o.op = .call { callee := .builtin .append, args := #[s, x], argTypes := #[22, 22] })
    (base : Nat) (v : Value) (xs : List Pv) (hv : a.eval s = v) (hown : VRow w base v xs) (X : Value) (ys : List Pv) (hX : a.eval x = X)
    (hs : Src Try.prog 6 22 X ys.length (vc ys) w) (hn : xs.length + ys.length ≤ 1000000000000) (hbase : base ≤ w.heap.size)
    (h : ∀ v' w', VRow w' base v' (xs ++ ys) → Hop w w' v.ownBlock v'.ownBlock → wpListIn F nF Try.prog ops Q rest (a.put o.dst v') w') : wpListIn F nF Try.prog ops Q (o :: rest) a w := by
  obtain ⟨i0, hi, hz0, hz1, hz2⟩ := info_parts infoVal
  obtain ⟨v', w', hr, h2, h3⟩ := run_append_row w 22 22 o.type 25 base i0 _ 6 80 Try.underlying22 hi hz0 hz1 hz2 rfl v _ _ hown X ys.length (vc ys) hs (by unfold maxLen; omega) (by omega) hbase
  refine wpListIn_plain hgd fun K' hK' => ?_
  unfold Oper.wpIn
  refine ⟨by simp [Oper.about, ho, resolve, Target.leads, Sem.run_pure], ?_⟩
  rw [Oper.semAt_plain F _ _ (by rw [ho]; intro c hc'; cases hc')]
  simp [execOp, ho, resolve, invoke, builtin, hv, hX, hr, Result.andThen]
  exact hK' _ _ (h v' w' (VRow.app h2 rfl) h3)
theorem grownBy_setAtK (w : World) (b o : Nat) {cur : Array Value} {t : TypeId} {fr : Nat × Nat} (h : w.heap[b]? = some (.cells cur t fr)) (v : Value) : w.grownBy (w.setCell ⟨b, o, none⟩ v) (some b) := by
  rw [setCell_eq_setRow w b o cur t fr v h]
  exact ⟨rfl, rfl, rfl, by simp, fun k _ hne => setRow_other w b k _ (fun hh => hne (by rw [hh]))⟩
theorem others_of {Z Y : World} {row : Option Nat} (h : Z.grownBy Y row) (hc : ∀ k, row = some k → ∀ o : Obj, Z.heap[k]? = some o → o.isCells = true) : KeepsOthers Z Y :=
  ⟨h.size, fun k o hk ho => (h.block k (Array.getElem?_eq_some_iff.1 hk).1 (fun e => by
    have := hc k e.symm o hk
    rw [ho] at this
    cases this)).trans hk⟩
theorem VRow.cells {w : World} {base : Nat} {u : Value} {xs : List Pv} (h : VRow w base u xs) : ∀ k, u.ownBlock = some k → ∀ o : Obj, w.heap[k]? = some o → o.isCells = true := by
  intro k hk o ho
  rcases h.2 with ⟨rfl, _⟩ | ⟨g', cap, cur, rfl, _, h3, _⟩
  · cases hk
  · cases hk
    rw [h3] at ho
    cases ho
    rfl
set_option maxRecDepth 100000 in
set_option maxHeartbeats 4000000 in
theorem appendSeq_any (g : Nat) (lb : Array Value) (eg : ∀ args w, (callFunc g args).run Try.prog w = .ok (.enter g args) w) (S : List Pv → Prop) (N : Nat) (hN : N ≤ 1000000) (w : World) (hseq : SeqGives Fence.wide 2 Try.prog g lb vv S N w) :
    Calls Try.prog 40 #[.slice none 0 0, .func (.func g) #[] lb] w fun e w' => ∃ (v : Value) (ss : List Pv), e = .returned v ∧ S ss ∧ VRow w' w.heap.size v ss ∧ ss.length ≤ N ∧ Below w.heap.size w w' := by
  refine (callsIn_wide (n := 3)).1 ?_
  refine callsIn_of_wp_marks Try.func40 rfl trivial ?_ rfl
  simp only [Try.ntmps40, List.size_toArray, List.length_cons, List.length_nil, Nat.reduceAdd, Nat.reduceSub, Array.replicate_succ, Array.replicate_zero, List.push_toArray, List.append_toArray, List.nil_append, List.cons_append]
  gi_wp2
  have k0 := (Below.refl w.heap.size w).alloc (Nat.le_refl _) (.cells #[.slice none 0 0] 22)
  refine wpIn_rangeBoxed (w0 := w) rfl eg hseq k0 rfl
    (fun ss X => ∃ u, X.heap[w.heap.size]? = some (.cells #[u] 22 (0, 0)) ∧ VRow X w.heap.size u ss ∧ ss.length ≤ N ∧ Below w.heap.size w X) ?_ ?_ (fun x B => { tmps := #[.slice none 0 0, .func (.func g) #[] lb, .pointer (some ⟨w.heap.size, 0, none⟩), undef, .slice none 0 0, .pointer (some ⟨B, 0, none⟩), .func (.func g) #[] lb, vv x, undef, undef, undef, undef, undef], defers := [] })
    (fun x => .cells #[.int .i64 x.tag, .string (bs x.text), .int .u64 x.bits, .string (bs x.cls), .string (bs x.name), .string (bs x.desc)] 25) ?_ ?_ ?_
  · rintro ss X Y row ⟨u, hb, hr, hl, hB⟩ hg hrow
    refine ⟨u, (hg.block _ (Array.getElem?_eq_some_iff.1 hb).1 (fun e => ?_)).trans hb, hr.kept hg (fun k hk e => ?_), hl, hB.grown hg hB.size (fun k e => ?_)⟩
    · have := (hrow _ e.symm).1
      simp at this
      omega
    · obtain ⟨_, o, h1, h2⟩ := hrow k e
      rcases hr.2 with ⟨rfl, _⟩ | ⟨g', cap, cur, rfl, _, h3, _⟩
      · cases hk
      · cases hk
        rw [h1] at h3
        cases h3
        cases h2
    · have := (hrow k e).1
      simp at this
      omega
  · exact ⟨_, heap_alloc_new _ _, VRow.nil _ _, by simp, k0⟩
  · intro l x X K hK
    unfold vv at hK ⊢
    gi_wp2_with (rw [Oper.semAt_eq _ _ _ (fun c h => by cases h)]; go_simp; try go_bits)
    exact hK
  · intro l B pre x Z hI hpre hB hbx
    obtain ⟨u, hb, hr, hl, hBl⟩ := hI
    have f0 := (blk_facts hb).1 0
    have f1 := (blk_facts hb).2 0
    have hbx' : VBox Z B x := hbx
    obtain ⟨d0, d1, d2, d3, d4, d5⟩ := hbx'.at_
    have hBs := hbx'.lt
    have hws := (Array.getElem?_eq_some_iff.1 hb).1
    obtain ⟨A0, c0, e0, hV0, hA0⟩ := hr.reads
    have HR := Lib.hid hr
    have HBL := Lib.hid hBl
    have HBX := Lib.hid hb
    clear hV0 hA0 hr hBl hb hbx hbx'
    subst e0
    have k1 := Lib.hid ((Below.refl Z.heap.size Z).alloc (Nat.le_refl _) (.cells #[.int .i64 x.tag, .string (bs x.text), .int .u64 x.bits, .string (bs x.cls), .string (bs x.name), .string (bs x.desc)] 25))
    unfold vv
    gi_wp2_with (first | (gi_at_builtin; refine wpListIn_appV rfl _ _ rfl w.heap.size (.slice A0 pre.length c0) pre rfl (HR.out.grow k1.out) _ [x] rfl (src_val (heap_alloc_new _ _) 1) (by simp; omega) (by simp; omega) ?_; intro v7 x7 hr7 hp7; (obtain ⟨A7, c7, e7, hV7, hA7⟩ := hr7.reads; subst e7; clear hV7 hA7); (have hb7 := (hp7.1.block w.heap.size (Nat.lt_of_lt_of_le hws k1.out.size) (own_ne (HR.out.grow k1.out) ((k1.out.block _ hws).trans HBX.out) (by decide))).trans ((k1.out.block _ hws).trans HBX.out)); (have f7 := (blk_facts hb7).1 0); (have g7 := (blk_facts hb7).2 0); (have HR7 := Lib.hid hr7); (have HP7 := Lib.hid hp7); (have HB7 := Lib.hid hb7); clear hr7 hp7 hb7) | (rw [Oper.semAt_eq _ _ _ (fun c h => by cases h)]; go_simp; try go_bits))
    have hlen : (pre ++ [x]).length = pre.length + 1 := by simp
    rw [hlen] at HR7 HP7
    have hg8 := grownBy_setAtK x7 w.heap.size 0 HB7.out (.slice A7 (pre.length + 1) c7)
    have hsz := HBL.out.size
    refine ⟨((others_of (World.grownBy_alloc Z _ none) (fun k e => by cases e)).trans (others_of HP7.out.1 (HR.out.grow k1.out).cells)).trans (others_of hg8 (fun k e o ho => by
      cases e
      rw [HB7.out] at ho
      cases ho
      rfl)), .slice A7 (pre.length + 1) c7, ?_, HR7.out.kept hg8 (fun k hk e => own_ne HR7.out HB7.out (by decide) (e.trans hk.symm)), by rw [hlen]; omega, ?_⟩
    · rw [setCell_eq_setRow x7 w.heap.size 0 _ _ _ _ HB7.out]
      exact setRow_heap x7 _ _ _ _ _ HB7.out
    · exact (((HBL.out.trans (k1.out.mono hsz)).trans (HP7.out.below (Nat.le_trans hsz k1.out.size) (fun k hk => HR.out.base_le hk)))).grown hg8 (Nat.le_trans hsz (Nat.le_trans k1.out.size HP7.out.1.size)) (fun j hj => by cases hj; exact Nat.le_refl _)
  · intro D xs X hD hS hI hdf
    obtain ⟨u, hb, hr, hl, hBl⟩ := hI
    have f0 := (blk_facts hb).1 0
    have f1 := (blk_facts hb).2 0
    have HR := Lib.hid hr
    have HBL := Lib.hid hBl
    obtain ⟨A0, c0, e0, hV0, hA0⟩ := hr.reads
    subst e0
    clear hV0 hA0 hr hBl hb
    gi_wp2
    have hD2 : w.heap.size < D := by simp at hD; omega
    have hgD := grownBy_putObj' X D (.deferred none)
    refine ⟨by simp, .inl ⟨_, _, rfl, run_takeDeferred hdf, ?_⟩⟩
    refine ⟨_, results_tmp rfl _ _ _, .slice A0 xs.length c0, xs, rfl, hS, HR.out.kept hgD (fun k hk e => ?_), hl, HBL.out.grown hgD HBL.out.size (fun k e => by cases e; omega)⟩
    cases e
    have := HR.out.cells _ hk _ hdf
    cases this
set_option maxRecDepth 100000 in
theorem collect_any (g : Nat) (lb : Array Value) (eg : ∀ args w, (callFunc g args).run Try.prog w = .ok (.enter g args) w) (S : List Pv → Prop) (N : Nat) (hN : N ≤ 1000000) (w : World) (hseq : SeqGives Fence.wide 2 Try.prog g lb vv S N w) :
    Calls Try.prog 25 #[.func (.func g) #[] lb] w fun e w' => ∃ (v : Value) (ss : List Pv), e = .returned v ∧ S ss ∧ VRow w' w.heap.size v ss ∧ ss.length ≤ N ∧ Below w.heap.size w w' := by
  have HA := Lib.hid (appendSeq_any g lb eg S N hN w hseq)
  clear hseq eg
  go_enter Try.func25, Try.ntmps25
  go_wp2_with fail
  refine HA.out.mono ?_
  rintro e w1 ⟨v, ss, rfl, hS, hr, hsl, hb⟩
  have H1 := Lib.hid hS
  have H2 := Lib.hid hr
  have H3 := Lib.hid hb
  clear hS hr hb
  go_wp2
  go_ret
  exact ⟨_, ss, rfl, H1.out, H2.out, hsl, H3.out⟩
end Go.Proofs.Ytekcfjfkbiciaaa
