/- Joined texts: CurB, CurC, BhE, BhF, BhG, CurD, BdA, BdB, BdC. -/
import Derived.Test.YtbdkoagagcemcaaPk3
import Derived.Test.YtbdkoagagcemcaaPk2
import Derived.Test.YtbdkoagagcemcaaPk1
/- The walks of layer 2's cursor: what it takes, and a number of one byte. -/
namespace Go.Proofs.Ytbdkoagagcemcaa
open Go.RowKit

section
variable {x : World} {b : Nat} {A : Option Addr} {c : Nat} {l : List UInt8} {n : Nat} {e : Int}
set_option maxRecDepth 100000 in
set_option maxHeartbeats 4000000 in
theorem cnext_ok (h : CurS x b A c l n 0) {k : Nat} (hk : n + k ≤ l.length) : Calls Try.prog 53 #[.pointer (some ⟨b, 0, none⟩), .int .i64 k, .bool true] x fun ex y => (∃ A' c', ex = .returned (.slice A' k c') ∧ BAt y A' c' ((l.drop n).take k) ∧ (A' = none → c' = 0)) ∧ CurS y b A c l (n + k) 0 ∧ x.grownBy y (some b) := by
  have HE := Lib.hid (cerr_any h)
  have HL := Lib.hid (cleft_any h)
  have H := Lib.hid h
  have hs := h.small
  have p1 : decide ((k : Int) < 0) = false := decide_eq_false (by omega)
  have p2 : decide (l.length - n < k) = false := decide_eq_false (by omega)
  have p3 : (n : Int) ≤ 1000000 := by omega
  have p4 : (k : Int) ≤ 1000000 := by omega
  clear h
  go_enter Try.func53, Try.ntmps53
  go_wp2_with fail
  refine HE.out.mono ?_
  rintro ex y ⟨rfl, ey⟩
  have ey := ey.symm
  subst ey
  go_wp2_with fail
  refine HL.out.mono ?_
  rintro ex y ⟨rfl, hb⟩
  have h1 := H.out.grow hb
  have H1 := Lib.hid h1
  have HB := Lib.hid hb
  have c1 := h1.ca
  have f1 := h1.frozen 1
  have hz := h1.lt
  have h2 := h1.setAt hk
  have e1 := Lib.hid (show ((n + k : Nat) : Int) = (n : Int) + (k : Int) from by omega)
  rw [e1.out] at h2
  have H2 := Lib.hid h2
  have d0 := h2.cb
  have d1 := h2.ca
  rw [e1.out] at d1
  have hz2 := h2.lt
  have hr := h2.row.1
  have G := Lib.hid (h1.turned 1 (.int .i64 ((n : Int) + (k : Int))))
  clear h1 hb HE HL h2
  have G2 := Lib.hid (show CurS (y.setCell ⟨b, 1, none⟩ (.int .i64 ((n : Int) + (k : Int)))).drew b A c l (n + k) 0 ∧ x.grownBy (y.setCell ⟨b, 1, none⟩ (.int .i64 ((n : Int) + (k : Int)))).drew (some b) from
    ⟨H2.out.grow (Below.refl _ _).drew, grownBy_trans (grownBy_below HB.out _) (grownBy_trans G.out (grownBy_below (Below.refl _ _).drew none) (.inr fun g e => by cases e)) (.inl rfl)⟩)
  rcases H.out.shape with ⟨rfl, rfl⟩ | ⟨g, rfl⟩
  · obtain rfl : l = [] := List.eq_nil_of_length_eq_zero (Nat.le_zero.1 hr)
    have hk0 : k = 0 := by have : ([] : List UInt8).length = 0 := rfl; omega
    have hn0 : n = 0 := by have : ([] : List UInt8).length = 0 := rfl; omega
    subst hk0
    subst hn0
    rw [show (((0 : Nat) : Int) + ((0 : Nat) : Int)) = 0 from rfl] at d0 d1 hz2
    go_wp2_with fail
    go_region
    go_wp2_with fail
    go_ret
    exact ⟨⟨_, _, rfl, BAt.nil _ _ _, fun _ => rfl⟩, G2.out⟩
  · have hn9 := H.out.le
    by_cases hcn : c = n
    · obtain rfl : k = 0 := by omega
      subst hcn
      rw [show (c : Int) + ((0 : Nat) : Int) = (c : Int) from Int.add_zero _] at d0 d1 hz2
      go_wp2_with fail
      go_region
      go_wp2_with fail
      go_ret
      exact ⟨⟨_, _, rfl, BAt.nil _ _ _, fun e => by cases e⟩, G2.out⟩
    · have hp : BAt (y.setCell ⟨b, 1, none⟩ (.int .i64 ((n : Int) + (k : Int)))).drew (some ⟨g, n, none⟩) (c - n) ((l.drop n).take k) := by
        by_cases hk0 : k = 0
        · subst hk0
          exact BAt.nil _ _ _
        · obtain ⟨g', o', e', hg, hB⟩ := (H.out.grow HB.out).part hk (by omega)
          cases e'
          rw [Nat.zero_add] at hB
          exact (hB.kept G.out (fun g o e hp e2 => by
            cases e
            exact H.out.apart rfl (by omega) (Option.some.inj e2))).grow (Below.refl _ _).drew
      have HP := Lib.hid hp
      have q1 : ¬ (c - n = 0) := by omega
      have q2 : ¬ (c ≤ n) := by omega
      clear hp
      go_wp2_with fail
      go_region
      go_wp2_with fail
      go_ret
      exact ⟨⟨some ⟨g, n, none⟩, c - n, by rw [Nat.add_sub_cancel_left]; rfl, HP.out, fun e => by cases e⟩, G2.out⟩
/-- Nothing is read behind an error. -/
theorem cnext_bad (h : CurS x b A c l n e) (h0 : e ≠ 0) (k : Int) (sz : Bool) : Calls Try.prog 53 #[.pointer (some ⟨b, 0, none⟩), .int .i64 k, .bool sz] x fun ex y => ex = .returned (.slice none 0 0) ∧ y = x := by
  have HE := Lib.hid (cerr_any h)
  have p0 : (e == 0) = false := by simpa using h0
  clear h h0
  go_enter Try.func53, Try.ntmps53
  go_wp2_with fail
  refine HE.out.mono ?_
  rintro ex y ⟨rfl, ey⟩
  have ey := ey.symm
  subst ey
  go_wp2_with fail
  go_ret
  exact ⟨rfl, rfl⟩
theorem cnext_arg (h : CurS x b A c l n 0) {k : Int} (hk : k < 0) : Calls Try.prog 53 #[.pointer (some ⟨b, 0, none⟩), .int .i64 k, .bool true] x fun ex y => ex = .returned (.slice none 0 0) ∧ CurS y b A c l n 1 ∧ x.grownBy y (some b) := by
  have HE := Lib.hid (cerr_any h)
  have HF := Lib.hid (cfail_any 1 h)
  have p1 : decide (k < 0) = true := decide_eq_true hk
  clear h hk
  go_enter Try.func53, Try.ntmps53
  go_wp2_with fail
  refine HE.out.mono ?_
  rintro ex y ⟨rfl, ey⟩
  have ey := ey.symm
  subst ey
  go_wp2_with fail
  refine HF.out.mono ?_
  rintro ex y ⟨rfl, h1, hg⟩
  have H1 := Lib.hid h1
  have G1 := Lib.hid hg
  clear h1 hg
  go_wp2_with fail
  go_ret
  exact ⟨rfl, H1.out, G1.out⟩
theorem cnext_end (h : CurS x b A c l n 0) {k : Nat} (hk : l.length - n < k) : Calls Try.prog 53 #[.pointer (some ⟨b, 0, none⟩), .int .i64 k, .bool true] x fun ex y => ex = .returned (.slice none 0 0) ∧ CurS y b A c l n 6 ∧ x.grownBy y (some b) := by
  have HE := Lib.hid (cerr_any h)
  have HL := Lib.hid (cleft_any h)
  have H := Lib.hid h
  have p1 : decide ((k : Int) < 0) = false := decide_eq_false (by omega)
  have p2 : decide (l.length - n < k) = true := decide_eq_true hk
  clear h hk
  go_enter Try.func53, Try.ntmps53
  go_wp2_with fail
  refine HE.out.mono ?_
  rintro ex y ⟨rfl, ey⟩
  have ey := ey.symm
  subst ey
  go_wp2_with fail
  refine HL.out.mono ?_
  rintro ex y ⟨rfl, hb⟩
  have HF := Lib.hid (cfail_any 6 (H.out.grow hb))
  have HB := Lib.hid hb
  clear hb
  go_wp2_with fail
  refine HF.out.mono ?_
  rintro ex y2 ⟨rfl, h1, hg⟩
  have H1 := Lib.hid h1
  have G1 := Lib.hid hg
  clear h1 hg
  go_wp2_with fail
  go_ret
  exact ⟨rfl, H1.out, grownBy_trans (grownBy_below HB.out _) G1.out (.inl rfl)⟩
end
end Go.Proofs.Ytbdkoagagcemcaa

/- The walks of layer 2's cursor: a number of one byte. -/
namespace Go.Proofs.Ytbdkoagagcemcaa
open Go.RowKit

theorem or_zero (u : UInt8) : bits .or .u64 0 (u.toNat : Int) = (u.toNat : Int) := by
  have hu := u.toNat_lt
  have := bits_join .u64 62 (by decide) (fun n h0 h1 => by rw [IntKind.wrap_u64]; omega) 8 0 (u.toNat : Int) (by decide) (by decide) (by decide) (by omega) (by omega) (by omega)
  rw [this]
  omega
section
variable {x : World} {b : Nat} {A : Option Addr} {c : Nat} {l : List UInt8} {n : Nat} {e : Int}
/-- No number behind an error. -/
theorem cbig_bad (h : CurS x b A c l n e) (h0 : e ≠ 0) : Calls Try.prog 32 #[.pointer (some ⟨b, 0, none⟩), .int .i64 1] x fun ex y => ex = .returned (.int .u64 0) ∧ y = x := by
  have HZ := Lib.hid (sized_any 1 x (.inl rfl))
  have HN := Lib.hid (cnext_bad h h0 1 true)
  clear h h0
  go_enter Try.func32, Try.ntmps32
  go_wp2_with fail
  refine HZ.out.mono ?_
  rintro ex y ⟨rfl, ey⟩
  have ey := ey.symm
  subst ey
  go_wp2_with fail
  refine HN.out.mono ?_
  rintro ex y ⟨rfl, ey⟩
  have ey := ey.symm
  subst ey
  go_wp2_with fail
  go_loopw [5, 14] (fun u t wr => u = .int .u64 0 ∧ t = .int .i64 0 ∧ wr = x) (fun _ _ _ => 0)
  case atStart => exact ⟨rfl, rfl, rfl⟩
  case round =>
    obtain ⟨rfl, rfl, rfl⟩ := hrel
    go_wp2_with fail
    go_ret
    exact ⟨rfl, rfl⟩
theorem cbig_end (h : CurS x b A c l n 0) (hn : n = l.length) : Calls Try.prog 32 #[.pointer (some ⟨b, 0, none⟩), .int .i64 1] x fun ex y => ex = .returned (.int .u64 0) ∧ CurS y b A c l n 6 ∧ x.grownBy y (some b) := by
  have HZ := Lib.hid (sized_any 1 x (.inl rfl))
  have HN := Lib.hid (cnext_end h (k := 1) (by omega))
  clear h hn
  go_enter Try.func32, Try.ntmps32
  go_wp2_with fail
  refine HZ.out.mono ?_
  rintro ex y ⟨rfl, ey⟩
  have ey := ey.symm
  subst ey
  go_wp2_with fail
  refine HN.out.mono ?_
  rintro ex y ⟨rfl, h1, hg⟩
  have H1 := Lib.hid h1
  have G1 := Lib.hid hg
  clear h1 hg
  go_wp2_with fail
  go_loopw [5, 14] (fun u t wr => u = .int .u64 0 ∧ t = .int .i64 0 ∧ wr = y) (fun _ _ _ => 0)
  case atStart => exact ⟨rfl, rfl, rfl⟩
  case round =>
    obtain ⟨rfl, rfl, rfl⟩ := hrel
    go_wp2_with fail
    go_ret
    exact ⟨rfl, H1.out, G1.out⟩
theorem cbig_ok (h : CurS x b A c l n 0) {u : UInt8} (hu : l[n]? = some u) : Calls Try.prog 32 #[.pointer (some ⟨b, 0, none⟩), .int .i64 1] x fun ex y => ex = .returned (.int .u64 (u.toNat : Int)) ∧ CurS y b A c l (n + 1) 0 ∧ x.grownBy y (some b) := by
  have hl : n < l.length := (List.getElem?_eq_some_iff.1 hu).1
  have HZ := Lib.hid (sized_any 1 x (.inl rfl))
  have HN := Lib.hid (cnext_ok h (k := 1) (by omega))
  have hd : (l.drop n).take 1 = [u] := by
    rw [List.drop_eq_getElem_cons hl]
    have : l[n] = u := (List.getElem?_eq_some_iff.1 hu).2
    rw [this]
    rfl
  have hub := u.toNat_lt
  clear h
  go_enter Try.func32, Try.ntmps32
  go_wp2_with fail
  refine HZ.out.mono ?_
  rintro ex y ⟨rfl, ey⟩
  have ey := ey.symm
  subst ey
  go_wp2_with fail
  refine HN.out.mono ?_
  rintro ex y ⟨⟨A', c', rfl, hB, _⟩, h1, hg⟩
  rw [hd] at hB
  obtain ⟨g, o, rfl, hg2, hc⟩ := hB.2 (by simp)
  have c0 := hc 0 u rfl
  rw [Nat.add_zero] at c0
  have hb1 : (1 : Nat) ≤ c' := hB.1
  have H1 := Lib.hid h1
  have G1 := Lib.hid hg
  clear h1 hg hB hc
  go_wp2_with fail
  go_loopw [5, 14] (fun v t wr => ((v = .int .u64 0 ∧ t = .int .i64 0) ∨ (v = .int .u64 (u.toNat : Int) ∧ t = .int .i64 1)) ∧ wr = y) (fun _ t _ => (1 - intOf t).toNat)
  case atStart => exact ⟨.inl ⟨rfl, rfl⟩, rfl⟩
  case round =>
    obtain ⟨⟨rfl, rfl⟩ | ⟨rfl, rfl⟩, rfl⟩ := hrel
    · go_wp2_with fail
      go_roundw
      case rel => exact ⟨.inr ⟨by rw [or_zero u], rfl⟩, trivial⟩
      case measure => decide
    · go_wp2_with fail
      go_ret
      exact ⟨rfl, H1.out, G1.out⟩
end
end Go.Proofs.Ytbdkoagagcemcaa

/- The walk of layer 24: a number that is read. -/
namespace Go.Proofs.Ytbdkoagagcemcaa
open Go.RowKit

/-- What reading comes to: what is told and what is left, or an error and none. -/
def Outc {α : Type} (o : Except Int (α × List UInt8)) (d v : α) (e : Int) (r : List UInt8) : Prop :=
  match o with
  | .ok p => e = 0 ∧ v = p.1 ∧ r = p.2
  | .error e' => e = e' ∧ e' ≠ 0 ∧ v = d
theorem outc_ok {α : Type} {o : Except Int (α × List UInt8)} {d v : α} {r : List UInt8} (h : o = .ok (v, r)) : Outc o d v 0 r := by subst h; exact ⟨rfl, rfl, rfl⟩
theorem outc_error {α : Type} {o : Except Int (α × List UInt8)} {d : α} {e : Int} {r : List UInt8} (h : o = .error e) (he : e ≠ 0) : Outc o d d e r := by subst h; exact ⟨rfl, he, rfl⟩
theorem getU_nil (h k : Nat) : getU h k [] = none := by cases k <;> rfl
theorem getU_last (h : Nat) (x : UInt8) (l : List UInt8) : getU h 0 (x :: l) = some (x.toNat, l) := rfl
theorem getU_stop {h k : Nat} {x : UInt8} (l : List UInt8) (hx : x.toNat < 256 - h) : getU h k (x :: l) = some (x.toNat, l) := by
  cases k with
  | zero => rfl
  | succ k => simp only [getU]; rw [if_pos hx]
theorem getU_on {h k : Nat} {x : UInt8} (l : List UInt8) (hx : ¬ x.toNat < 256 - h) : getU h (k + 1) (x :: l) = (getU h k l).map fun p => (x.toNat + h * p.1, p.2) := by
  simp only [getU]; rw [if_neg hx]
/-- The plain number, of what was reckoned and what is left to read. -/
def onU (u W : Nat) : Option (Nat × List UInt8) → Option (Nat × List UInt8) := Option.map fun p => (u + p.1 * W, p.2)
theorem onU_stop (u W : Nat) (x : Nat) (l : List UInt8) : onU u W (some (x, l)) = some (u + x * W, l) := rfl
theorem onU_on (u W h : Nat) (x : Nat) (o : Option (Nat × List UInt8)) : onU u W (o.map fun p => (x + h * p.1, p.2)) = onU (u + x * W) (W * h) o := by
  cases o with
  | none => rfl
  | some p =>
    unfold onU
    simp only [Option.map_some, Option.some.injEq, Prod.mk.injEq, and_true]
    rw [Nat.add_mul, Nat.mul_comm h p.1, Nat.mul_assoc, Nat.mul_comm h W]
    omega
theorem Cod.get_none {c : Cod} {l : List UInt8} (h : getU c.h (c.b - 1) l = none) : c.get l = .error 6 := by unfold Cod.get; rw [h]
theorem Cod.get_far {c : Cod} {l r : List UInt8} {u : Nat} (h : getU c.h (c.b - 1) l = some (u, r)) (hu : 4294967296 ≤ u) : c.get l = .error 5 := by unfold Cod.get; rw [h]; dsimp only; rw [if_pos hu]
theorem Cod.get_ok {c : Cod} {l r : List UInt8} {u : Nat} (h : getU c.h (c.b - 1) l = some (u, r)) (hu : ¬ 4294967296 ≤ u) : c.get l = .ok (numI c.s u, r) := by unfold Cod.get; rw [h]; dsimp only; rw [if_neg hu]
theorem CBox.kept {w w1 : World} {g : Nat} {c : Cod} {o : Option Nat} (h : CBox w g c) (k : w.grownBy w1 o) (hne : some g ≠ o) : CBox w1 g c := (k.block g (Array.getElem?_eq_some_iff.1 h).1 hne).trans h
section
variable {x : World} {b : Nat} {A : Option Addr} {cc : Nat} {l : List UInt8} {n : Nat}
set_option maxHeartbeats 8000000 in
set_option maxRecDepth 100000 in
theorem get_any (c : Cod) (hc : c.ok) (h : CurS x b A cc l n 0) :
    Calls Try.prog 82 #[.pointer (some ⟨b, 0, none⟩), c.val] x fun ex y => ∃ (v : Int) (m : Nat) (e : Int), ex = .returned (.int .i64 v) ∧ CurS y b A cc l m e ∧ Outc (c.get (l.drop n)) 0 v e (l.drop m) ∧ x.grownBy y (some b) := by
  have H0 := Lib.hid h
  have hbl := h.lt
  have HRt := Lib.hid (fun w => right_any c hc w)
  have HNm := Lib.hid (fun u h0 h1 w => number_any c hc u h0 h1 w)
  have hh := ok_h hc
  have hb := ok_b hc
  have hN := Lib.hid (fun h => Cod.get_none (c := c) (l := l.drop n) h)
  have hF := Lib.hid (fun u r h => Cod.get_far (c := c) (l := l.drop n) (r := r) (u := u) h)
  have hO := Lib.hid (fun u r h => Cod.get_ok (c := c) (l := l.drop n) (r := r) (u := u) h)
  unfold Cod.val at *
  clear h
  go_enter Try.func82, Try.ntmps82
  go_wp2_with fail
  refine (HRt.out _).mono ?_
  rintro ex y ⟨rfl, hb1⟩
  have hbx : CBox y x.heap.size c := (hb1.block x.heap.size (by simp)).trans (heap_alloc_new x _)
  have hx1 := Below.after' ((Below.refl x.heap.size x).alloc (Nat.le_refl _) _) hb1 (by simp)
  have HC := Lib.hid (H0.out.grow hx1)
  have HG := Lib.hid (grownBy_below hx1 (some b))
  have d0 := (blk_facts hbx).1 0
  have d1 := (blk_facts hbx).1 1
  have d2 := (blk_facts hbx).1 2
  have d3 := (blk_facts hbx).1 3
  have hz := (Array.getElem?_eq_some_iff.1 hbx).1
  have HBX := Lib.hid hbx
  clear hb1 hbx hx1
  go_wp2_with fail
  go_loopw [5, 6, 7] (fun s t i wr => ∃ (k u W : Nat), i = .int .i64 (k + 1 : Nat) ∧ s = .int .i64 u ∧ t = .int .i64 W ∧ u ≤ 256 ^ k ∧ W ≤ 256 ^ k ∧ x.grownBy wr (some b) ∧ CBox wr x.heap.size c ∧
    ((k < c.b ∧ CurS wr b A cc l (n + k) 0 ∧ onU u W (getU c.h (c.b - 1 - k) (l.drop (n + k))) = getU c.h (c.b - 1) (l.drop n)) ∨
     (k ≤ c.b ∧ (∃ m, CurS wr b A cc l m 6) ∧ getU c.h (c.b - 1) (l.drop n) = none) ∨
     (k = c.b ∧ CurS wr b A cc l (n + k) 0 ∧ getU c.h (c.b - 1) (l.drop n) = some (u, l.drop (n + k))))) (fun _ _ i _ => c.b + 2 - (intOf i).toNat)
  case atStart => exact ⟨0, 0, 1, rfl, rfl, rfl, by decide, by decide, HG.out, HBX.out, .inl ⟨by omega, HC.out, by
    rw [Nat.sub_zero, Nat.add_zero]
    cases getU c.h (c.b - 1) (l.drop n) with
    | none => rfl
    | some p => simp [onU]⟩⟩
  case round =>
    clear d0 d1 d2 d3 hz HC HG HBX
    obtain ⟨k, u, W, rfl, rfl, rfl, hu, hW, hg, hbx, hst⟩ := hrel
    have HGR := Lib.hid hg
    have HBX := Lib.hid hbx
    have d0 := (blk_facts hbx).1 0
    have d1 := (blk_facts hbx).1 1
    have d2 := (blk_facts hbx).1 2
    have d3 := (blk_facts hbx).1 3
    have hz := (Array.getElem?_eq_some_iff.1 hbx).1
    clear hg hbx
    rcases hst with ⟨hk, hc0, hst⟩ | ⟨hk, ⟨m, hc6⟩, hst⟩ | ⟨hk, hc0, hst⟩
    · have hp5 : 256 ^ k ≤ 4294967296 := Nat.le_trans (Nat.pow_le_pow_right (by decide) (by omega : k ≤ 4)) (by decide)
      have HE := Lib.hid (cerr_any hc0)
      have HST := Lib.hid hst
      have HC0 := Lib.hid hc0
      have p1 : decide (((k + 1 : Nat) : Int) ≤ (c.b : Int)) = true := decide_eq_true (by omega)
      clear hst
      by_cases hend : n + k < l.length
      · obtain ⟨a, ha⟩ : ∃ a, l[n + k]? = some a := ⟨_, List.getElem?_eq_getElem hend⟩
        have HBg := Lib.hid (cbig_ok hc0 ha)
        have hdr := Lib.hid (drop_atI ha)
        have hab := a.toNat_lt
        clear hc0 ha
        go_wp2_with fail
        refine HE.out.mono ?_
        rintro ex z ⟨rfl, ez⟩
        have ez := ez.symm
        subst ez
        go_wp2_with fail
        refine HBg.out.mono ?_
        rintro ex z ⟨rfl, hc1, hg1⟩
        have HC1 := Lib.hid hc1
        have HG1 := Lib.hid (grownBy_trans HGR.out hg1 (.inl rfl))
        have hbx1 := HBX.out.kept hg1 (by intro e; injection e with e; omega)
        have HBX1 := Lib.hid hbx1
        clear d0 d1 d2 d3 hz hc1 hg1 HGR HBX HC0 HE HBg
        have d0 := (blk_facts hbx1).1 0
        have d1 := (blk_facts hbx1).1 1
        have d2 := (blk_facts hbx1).1 2
        have d3 := (blk_facts hbx1).1 3
        have hz := (Array.getElem?_eq_some_iff.1 hbx1).1
        clear hbx1
        have n1 : a.toNat * W ≤ 255 * 256 ^ k := Nat.mul_le_mul (by omega) hW
        have n2 : W * c.h ≤ 256 ^ k * 256 := Nat.mul_le_mul hW hh.2
        have HU1 := Lib.hid (show u + a.toNat * W ≤ 256 ^ (k + 1) by rw [Nat.pow_succ]; omega)
        have HW1 := Lib.hid (show W * c.h ≤ 256 ^ (k + 1) by rw [Nat.pow_succ]; exact n2)
        have m0 : ((a.toNat * W : Nat) : Int) = (a.toNat : Int) * (W : Int) := Int.natCast_mul _ _
        have m1 : ((W * c.h : Nat) : Int) = (W : Int) * (c.h : Int) := Int.natCast_mul _ _
        have m2 : 0 ≤ (a.toNat : Int) * (W : Int) ∧ (a.toNat : Int) * (W : Int) ≤ 1099511627776 := by omega
        have m3 : 0 ≤ (W : Int) * (c.h : Int) ∧ (W : Int) * (c.h : Int) ≤ 1099511627776 := by omega
        have M0 := Lib.hid m0
        have M1 := Lib.hid m1
        have M4 := Lib.hid (show u ≤ 4294967296 by omega)
        clear n1 n2 hu hW hp5
        by_cases hst : a.toNat < 256 - c.h
        · have p2 : decide ((a.toNat : Int) < 256 - (c.h : Int)) = true := decide_eq_true (by omega)
          have hgu := Lib.hid (show getU c.h (c.b - 1) (l.drop n) = some (u + a.toNat * W, l.drop (n + k + 1)) by
            rw [← HST.out, hdr.out, getU_stop _ hst]; rfl)
          have hu4 := M4.out
          clear hst HST
          by_cases hbig : 4294967296 ≤ (u + a.toNat * W)
          · have p9 : decide ((4294967296 : Int) ≤ ((u : Int) + (a.toNat : Int) * (W : Int))) = true := decide_eq_true (by omega)
            have HFl := Lib.hid (cfail_any 5 HC1.out)
            have hfin := Lib.hid (hF.out _ _ hgu.out hbig)
            clear hbig m0 m1
            go_wp2_with fail
            refine HFl.out.mono ?_
            rintro ex z ⟨rfl, hc9, hg9⟩
            have HE9 := Lib.hid (cerr_any hc9)
            have HC9 := Lib.hid hc9
            have HG9 := Lib.hid (grownBy_trans HG1.out hg9 (.inl rfl))
            have e9 : fe 0 5 = 5 := rfl
            rw [e9] at HC9 HE9
            clear hc9 hg9 e9 HFl
            go_wp2_with fail
            refine HE9.out.mono ?_
            rintro ex z2 ⟨rfl, ez⟩
            have ez := ez.symm
            subst ez
            go_wp2_with fail
            go_ret
            exact ⟨0, _, 5, rfl, HC9.out, outc_error hfin.out (by decide), HG9.out⟩
          · have p9 : decide ((4294967296 : Int) ≤ ((u : Int) + (a.toNat : Int) * (W : Int))) = false := decide_eq_false (by omega)
            have HE9 := Lib.hid (cerr_any HC1.out)
            have hfin := Lib.hid (hO.out _ _ hgu.out hbig)
            have HN9 := Lib.hid (fun w => HNm.out ((u : Int) + (a.toNat : Int) * (W : Int)) (by omega) (by omega) w)
            have hcast := Lib.hid (show ((u : Int) + (a.toNat : Int) * (W : Int)) = (((u + a.toNat * W) : Nat) : Int) by omega)
            clear hbig m0 m1
            go_wp2_with fail
            refine HE9.out.mono ?_
            rintro ex z2 ⟨rfl, ez⟩
            have ez := ez.symm
            subst ez
            go_wp2_with fail
            refine (HN9.out _).mono ?_
            rintro ex z2 ⟨rfl, hb9⟩
            have HB9 := Lib.hid hb9
            clear hb9
            go_wp2_with fail
            go_ret
            exact ⟨_, _, 0, rfl, HC1.out.grow HB9.out, by first | exact outc_ok hfin.out | (rw [hcast.out]; exact outc_ok hfin.out), grownBy_trans HG1.out (grownBy_below HB9.out none) (.inr fun g e => by cases e)⟩
        · have p2 : decide ((a.toNat : Int) < 256 - (c.h : Int)) = false := decide_eq_false (by omega)
          have hu4 := M4.out
          have hlast := Lib.hid (show (k + 1 < c.b ∧ onU (u + a.toNat * W) (W * c.h) (getU c.h (c.b - 1 - (k + 1)) (l.drop (n + k + 1))) = getU c.h (c.b - 1) (l.drop n)) ∨ (k + 1 = c.b ∧ getU c.h (c.b - 1) (l.drop n) = some (u + a.toNat * W, l.drop (n + k + 1))) by
            by_cases hkb : k + 1 < c.b
            · refine .inl ⟨hkb, ?_⟩
              rw [← HST.out, hdr.out, show c.b - 1 - k = (c.b - 1 - (k + 1)) + 1 from by omega, getU_on _ hst, onU_on]
            · refine .inr ⟨by omega, ?_⟩
              rw [← HST.out, hdr.out, show c.b - 1 - k = 0 from by omega, getU_last]; rfl)
          clear hst HST m0 m1
          go_wp2_with fail
          go_roundw
          case rel => exact ⟨k + 1, u + a.toNat * W, W * c.h, by go_num, by rw [Int.natCast_add, M0.out], by rw [M1.out], HU1.out, HW1.out, HG1.out, HBX1.out, by
            rcases hlast.out with ⟨q1, q2⟩ | ⟨q1, q2⟩
            · exact .inl ⟨q1, HC1.out, q2⟩
            · exact .inr (.inr ⟨q1, HC1.out, q2⟩)⟩
          case measure => simp [intOf]; omega
      · have hnl : n + k = l.length := by have := hc0.le; omega
        have HBg := Lib.hid (cbig_end hc0 hnl)
        have hgu := Lib.hid (show getU c.h (c.b - 1) (l.drop n) = none by
          rw [← HST.out, List.drop_of_length_le (by omega), getU_nil]; rfl)
        clear hc0
        go_wp2_with fail
        refine HE.out.mono ?_
        rintro ex z ⟨rfl, ez⟩
        have ez := ez.symm
        subst ez
        go_wp2_with fail
        refine HBg.out.mono ?_
        rintro ex z ⟨rfl, hc1, hg1⟩
        have HC1 := Lib.hid hc1
        have HG1 := Lib.hid (grownBy_trans HGR.out hg1 (.inl rfl))
        have hbx1 := HBX.out.kept hg1 (by intro e; injection e with e; omega)
        have HBX1 := Lib.hid hbx1
        clear d0 d1 d2 d3 hz hc1 hg1 HGR HBX HC0 HE HBg HST
        have d0 := (blk_facts hbx1).1 0
        have d1 := (blk_facts hbx1).1 1
        have d2 := (blk_facts hbx1).1 2
        have d3 := (blk_facts hbx1).1 3
        have hz := (Array.getElem?_eq_some_iff.1 hbx1).1
        clear hbx1
        have n2 : W * c.h ≤ 256 ^ k * 256 := Nat.mul_le_mul hW hh.2
        have HW1 := Lib.hid (show W * c.h ≤ 256 ^ (k + 1) by rw [Nat.pow_succ]; exact n2)
        have HU1 := Lib.hid (show u ≤ 256 ^ (k + 1) by rw [Nat.pow_succ]; omega)
        have m1 : ((W * c.h : Nat) : Int) = (W : Int) * (c.h : Int) := Int.natCast_mul _ _
        have m3 : 0 ≤ (W : Int) * (c.h : Int) ∧ (W : Int) * (c.h : Int) ≤ 1099511627776 := by omega
        have M1 := Lib.hid m1
        have M4 : u ≤ 4294967296 := by omega
        clear n2 hu hW hp5
        by_cases hst : c.h < 256
        · have p2 : decide ((0 : Int) < 256 - (c.h : Int)) = true := decide_eq_true (by omega)
          have p3 : decide (c.h < 256) = true := decide_eq_true hst
          have p4 : decide ((c.h : Int) < 256) = true := decide_eq_true (by omega)
          clear hst
          by_cases hbig : 4294967296 ≤ u
          · have p9 : decide ((4294967296 : Int) ≤ (u : Int)) = true := decide_eq_true (by omega)
            have HFl := Lib.hid (cfail_any 5 HC1.out)
            clear hbig m1
            go_wp2_with fail
            refine HFl.out.mono ?_
            rintro ex z ⟨rfl, hc9, hg9⟩
            have HE9 := Lib.hid (cerr_any hc9)
            have HC9 := Lib.hid hc9
            have HG9 := Lib.hid (grownBy_trans HG1.out hg9 (.inl rfl))
            have e9 : fe 6 5 = 6 := rfl
            rw [e9] at HC9 HE9
            clear hc9 hg9 e9 HFl
            go_wp2_with fail
            refine HE9.out.mono ?_
            rintro ex z2 ⟨rfl, ez⟩
            have ez := ez.symm
            subst ez
            go_wp2_with fail
            go_ret
            exact ⟨0, _, 6, rfl, HC9.out, outc_error (hN.out hgu.out) (by decide), HG9.out⟩
          · have p9 : decide ((4294967296 : Int) ≤ (u : Int)) = false := decide_eq_false (by omega)
            have HE9 := Lib.hid (cerr_any HC1.out)
            clear hbig m1
            go_wp2_with fail
            refine HE9.out.mono ?_
            rintro ex z2 ⟨rfl, ez⟩
            have ez := ez.symm
            subst ez
            go_wp2_with fail
            go_ret
            exact ⟨0, _, 6, rfl, HC1.out, outc_error (hN.out hgu.out) (by decide), HG1.out⟩
        · have p2 : decide ((0 : Int) < 256 - (c.h : Int)) = false := decide_eq_false (by omega)
          have p3 : decide (c.h < 256) = false := decide_eq_false hst
          have p4 : decide ((c.h : Int) < 256) = false := decide_eq_false (by omega)
          clear hst m1
          go_wp2_with fail
          go_roundw
          case rel => exact ⟨k + 1, u, W * c.h, by go_num, rfl, by rw [M1.out], HU1.out, HW1.out, HG1.out, HBX1.out, .inr (.inl ⟨by omega, ⟨_, HC1.out⟩, hgu.out⟩)⟩
          case measure => simp [intOf]; omega
    · have HE := Lib.hid (cerr_any hc6)
      have HC1 := Lib.hid hc6
      have hgu := Lib.hid hst
      have hp5 : 256 ^ k ≤ 1099511627776 := Nat.le_trans (Nat.pow_le_pow_right (by decide) (by omega : k ≤ 5)) (by decide)
      have hu4 : u ≤ 1099511627776 := by omega
      clear hc6 hst hu hW hp5
      by_cases hkb : k < c.b
      · have p1 : decide (((k + 1 : Nat) : Int) ≤ (c.b : Int)) = true := decide_eq_true (by omega)
        have p7 : decide ((k : Int) + 1 ≤ (c.b : Int)) = true := decide_eq_true (by omega)
        go_wp2_with fail
        refine HE.out.mono ?_
        rintro ex z ⟨rfl, ez⟩
        have ez := ez.symm
        subst ez
        by_cases hbig : 4294967296 ≤ u
        · have p9 : decide ((4294967296 : Int) ≤ (u : Int)) = true := decide_eq_true (by omega)
          have HFl := Lib.hid (cfail_any 5 HC1.out)
          clear hbig
          go_wp2_with fail
          refine HFl.out.mono ?_
          rintro ex z ⟨rfl, hc9, hg9⟩
          have HE9 := Lib.hid (cerr_any hc9)
          have HC9 := Lib.hid hc9
          have HG9 := Lib.hid (grownBy_trans HGR.out hg9 (.inl rfl))
          have e9 : fe 6 5 = 6 := rfl
          rw [e9] at HC9 HE9
          clear hc9 hg9 e9 HFl
          go_wp2_with fail
          refine HE9.out.mono ?_
          rintro ex z2 ⟨rfl, ez⟩
          have ez := ez.symm
          subst ez
          go_wp2_with fail
          go_ret
          exact ⟨0, _, 6, rfl, HC9.out, outc_error (hN.out hgu.out) (by decide), HG9.out⟩
        · have p9 : decide ((4294967296 : Int) ≤ (u : Int)) = false := decide_eq_false (by omega)
          have HE9 := Lib.hid (cerr_any HC1.out)
          clear hbig
          go_wp2_with fail
          refine HE9.out.mono ?_
          rintro ex z2 ⟨rfl, ez⟩
          have ez := ez.symm
          subst ez
          go_wp2_with fail
          go_ret
          exact ⟨0, _, 6, rfl, HC1.out, outc_error (hN.out hgu.out) (by decide), HGR.out⟩
      · have p1 : decide (((k + 1 : Nat) : Int) ≤ (c.b : Int)) = false := decide_eq_false (by omega)
        have p7 : decide ((k : Int) + 1 ≤ (c.b : Int)) = false := decide_eq_false (by omega)
        by_cases hbig : 4294967296 ≤ u
        · have p9 : decide ((4294967296 : Int) ≤ (u : Int)) = true := decide_eq_true (by omega)
          have HFl := Lib.hid (cfail_any 5 HC1.out)
          clear hbig
          go_wp2_with fail
          refine HFl.out.mono ?_
          rintro ex z ⟨rfl, hc9, hg9⟩
          have HE9 := Lib.hid (cerr_any hc9)
          have HC9 := Lib.hid hc9
          have HG9 := Lib.hid (grownBy_trans HGR.out hg9 (.inl rfl))
          have e9 : fe 6 5 = 6 := rfl
          rw [e9] at HC9 HE9
          clear hc9 hg9 e9 HFl
          go_wp2_with fail
          refine HE9.out.mono ?_
          rintro ex z2 ⟨rfl, ez⟩
          have ez := ez.symm
          subst ez
          go_wp2_with fail
          go_ret
          exact ⟨0, _, 6, rfl, HC9.out, outc_error (hN.out hgu.out) (by decide), HG9.out⟩
        · have p9 : decide ((4294967296 : Int) ≤ (u : Int)) = false := decide_eq_false (by omega)
          have HE9 := Lib.hid (cerr_any HC1.out)
          clear hbig
          go_wp2_with fail
          refine HE9.out.mono ?_
          rintro ex z2 ⟨rfl, ez⟩
          have ez := ez.symm
          subst ez
          go_wp2_with fail
          go_ret
          exact ⟨0, _, 6, rfl, HC1.out, outc_error (hN.out hgu.out) (by decide), HGR.out⟩
    · have HC1 := Lib.hid hc0
      have hgu := Lib.hid hst
      have hp5 : 256 ^ k ≤ 1099511627776 := Nat.le_trans (Nat.pow_le_pow_right (by decide) (by omega : k ≤ 5)) (by decide)
      have hu4 : u ≤ 1099511627776 := by omega
      have p1 : decide (((k + 1 : Nat) : Int) ≤ (c.b : Int)) = false := decide_eq_false (by omega)
      have p7 : decide ((k : Int) + 1 ≤ (c.b : Int)) = false := decide_eq_false (by omega)
      have hkb : ¬ k < c.b := by omega
      clear hc0 hst hu hW hp5 hk
      by_cases hbig : 4294967296 ≤ u
      · have p9 : decide ((4294967296 : Int) ≤ (u : Int)) = true := decide_eq_true (by omega)
        have HFl := Lib.hid (cfail_any 5 HC1.out)
        have hfin := Lib.hid (hF.out _ _ hgu.out hbig)
        clear hbig
        go_wp2_with fail
        refine HFl.out.mono ?_
        rintro ex z ⟨rfl, hc9, hg9⟩
        have HE9 := Lib.hid (cerr_any hc9)
        have HC9 := Lib.hid hc9
        have HG9 := Lib.hid (grownBy_trans HGR.out hg9 (.inl rfl))
        have e9 : fe 0 5 = 5 := rfl
        rw [e9] at HC9 HE9
        clear hc9 hg9 e9 HFl
        go_wp2_with fail
        refine HE9.out.mono ?_
        rintro ex z2 ⟨rfl, ez⟩
        have ez := ez.symm
        subst ez
        go_wp2_with fail
        go_ret
        exact ⟨0, _, 5, rfl, HC9.out, outc_error hfin.out (by decide), HG9.out⟩
      · have p9 : decide ((4294967296 : Int) ≤ (u : Int)) = false := decide_eq_false (by omega)
        have HE9 := Lib.hid (cerr_any HC1.out)
        have hfin := Lib.hid (hO.out _ _ hgu.out hbig)
        have HN9 := Lib.hid (fun w => HNm.out (u : Int) (by omega) (by omega) w)
        have hcast := Lib.hid (show (u : Int) = ((u : Nat) : Int) by omega)
        clear hbig
        go_wp2_with fail
        refine HE9.out.mono ?_
        rintro ex z2 ⟨rfl, ez⟩
        have ez := ez.symm
        subst ez
        go_wp2_with fail
        refine (HN9.out _).mono ?_
        rintro ex z2 ⟨rfl, hb9⟩
        have HB9 := Lib.hid hb9
        clear hb9
        go_wp2_with fail
        go_ret
        exact ⟨_, _, 0, rfl, HC1.out.grow HB9.out, by first | exact outc_ok hfin.out | (rw [hcast.out]; exact outc_ok hfin.out), grownBy_trans HGR.out (grownBy_below HB9.out none) (.inr fun g e => by cases e)⟩
end
end Go.Proofs.Ytbdkoagagcemcaa

/- The walk of layer 24: a row that is read. -/
namespace Go.Proofs.Ytbdkoagagcemcaa
open Go.RowKit

def sliceLen : Value → Nat
  | .slice _ n _ => n
  | _ => 0
theorem irow_kept {w w1 : World} {base : Nat} {v : Value} {xs : List Int} {b : Nat} {cs : Array Value} {t : TypeId} {fr : Nat × Nat} (h : IRow w base v xs) (g : w.grownBy w1 (some b)) (hb : w.heap[b]? = some (.cells cs t fr)) (ht : t ≠ 3) : IRow w1 base v xs :=
  World.ownsRow.kept h g (.inr (own_ne h hb ht).symm)
theorem ibox_hop {w w1 : World} {base : Nat} {v v' : Value} {xs : List Int} (h : IRow w base v xs) (hp : Hop w w1 v.ownBlock v'.ownBlock) {g : Nat} {cs : Array Value} {t : TypeId} {fr : Nat × Nat} (hb : w.heap[g]? = some (.cells cs t fr)) (ht : t ≠ 3) : w1.heap[g]? = some (.cells cs t fr) :=
  (hp.1.block g (Array.getElem?_eq_some_iff.1 hb).1 (own_ne h hb ht)).trans hb
theorem boundI_zero (s : Nat) : boundI s 0 = true := by unfold boundI; split <;> decide
theorem drop_moves {l : List UInt8} {n m j : Nat} (hm : m ≤ l.length) (hn : n ≤ l.length) (hj : j ≤ (l.drop n).length) (h : l.drop m = (l.drop n).drop j) : m = n + j := by
  have := congrArg List.length h
  simp only [List.length_drop] at this hj
  omega
theorem Cod.get_moves {c : Cod} {l r : List UInt8} {v : Int} (h : c.get l = .ok (v, r)) : ∃ j, 1 ≤ j ∧ j ≤ l.length ∧ r = l.drop j := by
  unfold Cod.get at h
  cases hg : getU c.h (c.b - 1) l with
  | none => rw [hg] at h; cases h
  | some q =>
    obtain ⟨u, r'⟩ := q
    rw [hg] at h
    dsimp only at h
    split at h
    · cases h
    · cases h
      obtain ⟨j, h1, h2, _, h3⟩ := get_rest _ _ _ hg
      exact ⟨j, h1, h2, h3⟩
section
variable {x : World} {b : Nat} {A : Option Addr} {cc : Nat} {l : List UInt8} {n : Nat}
/-- Behind an error nothing is read. -/
theorem readrow_bad (c : Cod) (hc : c.ok) {e : Int} (h : CurS x b A cc l n e) (he : e ≠ 0) (k : Int) (hk : I64 k) :
    Calls Try.prog 58 #[.pointer (some ⟨b, 0, none⟩), c.val, .int .i64 k] x fun ex y => ex = .returned (.slice none 0 0) ∧ CurS y b A cc l n e ∧ x.grownBy y (some b) := by
  have H0 := Lib.hid h
  have HRt := Lib.hid (fun w => right_any c hc w)
  have p0 : (e == 0) = false := by simpa using he
  have p1 : (e != 0) = true := by simpa using he
  have hfe : fe e 1 = e := by unfold fe; rw [if_neg he]
  have HFE := Lib.hid hfe
  unfold Cod.val at *
  unfold I64 at hk
  have k1 := Lib.hid ((Below.refl x.heap.size x).alloc (Nat.le_refl _) (.cells #[.int .i64 c.b, .int .i64 c.h, .int .i64 c.s, .int .i64 c.d] 38))
  clear h he hfe
  by_cases h1 : k < 0
  · have q1 : decide (k < 0) = true := decide_eq_true h1
    have HFl := Lib.hid (cfail_any 1 (H0.out.grow k1.out))
    clear h1
    go_enter Try.func58, Try.ntmps58
    go_wp2_with fail
    refine HFl.out.mono ?_
    rintro ex z ⟨rfl, hc9, hg9⟩
    rw [HFE.out] at hc9
    have HC9 := Lib.hid hc9
    have HG9 := Lib.hid (grownBy_trans (grownBy_below k1.out (some b)) hg9 (.inl rfl))
    have HE9 := Lib.hid (cerr_any hc9)
    clear hc9 hg9 HFl
    go_wp2_with fail
    go_loopw [7, 8] (fun s t wr => s = .slice none 0 0 ∧ wr = z) (fun _ _ _ => 0)
    case atStart => exact ⟨rfl, rfl⟩
    case round =>
      obtain ⟨rfl, rfl⟩ := hrel
      go_wp2_with fail
      refine HE9.out.mono ?_
      rintro ex z2 ⟨rfl, ez⟩
      have ez := ez.symm
      subst ez
      go_wp2_with fail
      refine HE9.out.mono ?_
      rintro ex z2 ⟨rfl, ez⟩
      have ez := ez.symm
      subst ez
      go_wp2_with fail
      go_ret
      exact ⟨rfl, HC9.out, HG9.out⟩
  · have q1 : decide (k < 0) = false := decide_eq_false h1
    clear h1
    go_enter Try.func58, Try.ntmps58
    go_wp2_with fail
    refine (HRt.out _).mono ?_
    rintro ex y ⟨rfl, hb1⟩
    have hx1 := Below.after' k1.out hb1 (by simp)
    have hc9 := H0.out.grow hx1
    have HC9 := Lib.hid hc9
    have HG9 := Lib.hid (grownBy_below hx1 (some b))
    have HE9 := Lib.hid (cerr_any hc9)
    clear hb1 hx1 hc9
    go_wp2_with fail
    go_loopw [7, 8] (fun s t wr => s = .slice none 0 0 ∧ wr = y) (fun _ _ _ => 0)
    case atStart => exact ⟨rfl, rfl⟩
    case round =>
      obtain ⟨rfl, rfl⟩ := hrel
      go_wp2_with fail
      refine HE9.out.mono ?_
      rintro ex z2 ⟨rfl, ez⟩
      have ez := ez.symm
      subst ez
      go_wp2_with fail
      refine HE9.out.mono ?_
      rintro ex z2 ⟨rfl, ez⟩
      have ez := ez.symm
      subst ez
      go_wp2_with fail
      go_ret
      exact ⟨rfl, HC9.out, HG9.out⟩
end
end Go.Proofs.Ytbdkoagagcemcaa

/- The walk of layer 24: a row that is read, where there is no error yet. -/
namespace Go.Proofs.Ytbdkoagagcemcaa
open Go.RowKit

section
variable {x : World} {b : Nat} {A : Option Addr} {cc : Nat} {l : List UInt8} {n : Nat}
/-- Where reading stands. -/
def RdSt (c : Cod) (l : List UInt8) (n k : Nat) (vs : List Int) (last : Int) (m : Nat) (e : Int) : Prop :=
  (e = 0 ∧ vs.length ≤ k ∧ n + vs.length ≤ m ∧ pre vs (c.read (k - vs.length) last (l.drop m)) = c.read k 0 (l.drop n)) ∨ (e ≠ 0 ∧ c.read k 0 (l.drop n) = .error e)
theorem RdSt.step_ok {c : Cod} {l : List UInt8} {n k : Nat} {vs : List Int} {last : Int} {m m' : Nat} {v : Int} (h : RdSt c l n k vs last m 0) (hk : vs.length < k) (hm : m ≤ l.length) (hm' : m' ≤ l.length) (hg : c.get (l.drop m) = .ok (v, l.drop m')) (hb : boundI c.s v = true) : RdSt c l n k (vs ++ [c.sum last v]) (c.sum last v) m' 0 := by
  rcases h with ⟨_, h1, h2, h3⟩ | ⟨h1, _⟩
  · obtain ⟨j, j1, j2, j3⟩ := Cod.get_moves hg
    have hmv := drop_moves hm' hm j2 j3
    refine .inl ⟨rfl, by simp; omega, by simp; omega, ?_⟩
    rw [← h3, show k - vs.length = (k - (vs ++ [c.sum last v]).length) + 1 from by simp; omega, c.read_ok _ last hg hb, pre_pre]
  · exact absurd rfl h1
theorem RdSt.step_out {c : Cod} {l : List UInt8} {n k : Nat} {vs ws : List Int} {last last' : Int} {m m' : Nat} {v : Int} {r : List UInt8} (h : RdSt c l n k vs last m 0) (hk : vs.length < k) (hg : c.get (l.drop m) = .ok (v, r)) (hb : boundI c.s v = false) : RdSt c l n k ws last' m' 5 := by
  rcases h with ⟨_, h1, h2, h3⟩ | ⟨h1, _⟩
  · refine .inr ⟨by decide, ?_⟩
    rw [← h3, show k - vs.length = (k - vs.length - 1) + 1 from by omega, c.read_out _ last hg hb]; rfl
  · exact absurd rfl h1
theorem RdSt.step_bad {c : Cod} {l : List UInt8} {n k : Nat} {vs ws : List Int} {last last' : Int} {m m' : Nat} {e : Int} (h : RdSt c l n k vs last m 0) (hk : vs.length < k) (hg : c.get (l.drop m) = .error e) (he : e ≠ 0) : RdSt c l n k ws last' m' e := by
  rcases h with ⟨_, h1, h2, h3⟩ | ⟨h1, _⟩
  · refine .inr ⟨he, ?_⟩
    rw [← h3, show k - vs.length = (k - vs.length - 1) + 1 from by omega, c.read_bad _ last hg]; rfl
  · exact absurd rfl h1
theorem RdSt.done {c : Cod} {l : List UInt8} {n k : Nat} {vs : List Int} {last : Int} {m : Nat} (h : RdSt c l n k vs last m 0) (hk : ¬ vs.length < k) : c.read k 0 (l.drop n) = .ok (vs, l.drop m) := by
  rcases h with ⟨_, h1, h2, h3⟩ | ⟨h1, _⟩
  · rw [← h3, show k - vs.length = 0 from by omega]
    show Except.ok (vs ++ [], l.drop m) = _
    rw [List.append_nil]
  · exact absurd rfl h1
theorem RdSt.bad {c : Cod} {l : List UInt8} {n k : Nat} {vs : List Int} {last : Int} {m : Nat} {e : Int} (h : RdSt c l n k vs last m e) (he : e ≠ 0) : c.read k 0 (l.drop n) = .error e := by
  rcases h with ⟨h1, _⟩ | ⟨_, h1⟩
  · exact absurd h1 he
  · exact h1
set_option maxHeartbeats 8000000 in
set_option maxRecDepth 100000 in
theorem readrow_any (c : Cod) (hc : c.ok) (h : CurS x b A cc l n 0) (k : Nat) (hk : k ≤ 9223372036854775807) :
    Calls Try.prog 58 #[.pointer (some ⟨b, 0, none⟩), c.val, .int .i64 k] x fun ex y => ∃ (u : Value) (vs : List Int) (m : Nat) (e : Int), ex = .returned u ∧ IRow y x.heap.size u vs ∧ CurS y b A cc l m e ∧ Outc (c.read k 0 (l.drop n)) [] vs e (l.drop m) ∧ x.grownBy y (some b) := by
  have H0 := Lib.hid h
  have hbl := h.lt
  have hls := h.small
  have HC := Lib.hid hc
  have HRt := Lib.hid (fun w => right_any c hc w)
  have HBd := Lib.hid (fun v hv w => bound_any c hc v hv w)
  have HRd := Lib.hid (fun v hv w => round_any c hc v hv w)
  have HGt := Lib.hid (fun x n (h : CurS x b A cc l n 0) => get_any c hc h)
  unfold Cod.val at *
  clear h hc
  have p0 : decide ((k : Int) < 0) = false := decide_eq_false (by omega)
  go_enter Try.func58, Try.ntmps58
  go_wp2_with fail
  refine (HRt.out _).mono ?_
  rintro ex y ⟨rfl, hb1⟩
  have hbx : CBox y x.heap.size c := (hb1.block x.heap.size (by simp)).trans (heap_alloc_new x _)
  have hx1 := Below.after' ((Below.refl x.heap.size x).alloc (Nat.le_refl _) _) hb1 (by simp)
  have HCU := Lib.hid (H0.out.grow hx1)
  have HG := Lib.hid (grownBy_below hx1 (some b))
  have HBX := Lib.hid hbx
  clear hb1 hbx hx1
  go_wp2_with fail
  go_loopw [7, 8] (fun s t wr => ∃ (vs : List Int) (last : Int) (m : Nat) (e : Int), t = .int .i64 last ∧ -8589934592 ≤ last ∧ last ≤ 8589934592 ∧ vs.length ≤ k ∧ vs.length ≤ 1000001 ∧ IRow wr x.heap.size s vs ∧ CurS wr b A cc l m e ∧ x.grownBy wr (some b) ∧ CBox wr x.heap.size c ∧ RdSt c l n k vs last m e) (fun s _ _ => k + 2 - sliceLen s)
  case atStart => exact ⟨[], 0, n, 0, rfl, by omega, by omega, by simp, by simp, IRow.nil _ _, HCU.out, HG.out, HBX.out, .inl ⟨rfl, by simp, by simp, by rw [pre_nil]; rfl⟩⟩
  case round =>
    clear HCU HG HBX
    obtain ⟨vs, last, m, e, rfl, hl1, hl2, hvk, hvl, hrow, hcur, hg, hbx, hst⟩ := hrel
    obtain ⟨Av, cv, rfl, _⟩ := hrow.reads
    have HR := Lib.hid hrow
    have HCU := Lib.hid hcur
    have HG := Lib.hid hg
    have HBX := Lib.hid hbx
    have HST := Lib.hid hst
    have HE := Lib.hid (cerr_any hcur)
    have hml := hcur.le
    clear hrow hcur hg
    by_cases he : e = 0
    · subst he
      by_cases hlt : vs.length < k
      · have q1 : decide ((vs.length : Int) < (k : Int)) = true := decide_eq_true (by omega)
        have hvl2 : vs.length ≤ 1000000 := by
          rcases HST.out with ⟨_, _, h2, _⟩ | ⟨h1, _⟩
          · omega
          · exact absurd rfl h1
        have d0 := (blk_facts hbx).1 0
        have d1 := (blk_facts hbx).1 1
        have d2 := (blk_facts hbx).1 2
        have d3 := (blk_facts hbx).1 3
        have hz := (Array.getElem?_eq_some_iff.1 hbx).1
        clear hbx hst
        go_wp2_with fail
        refine HE.out.mono ?_
        rintro ex z ⟨rfl, ez⟩
        have ez := ez.symm
        subst ez
        clear HE
        go_wp2_with fail
        refine (HGt.out _ _ HCU.out).mono ?_
        rintro ex z ⟨v, m', e', rfl, hc1, ho, hg1⟩
        have hm' := hc1.le
        have HR1 := Lib.hid (irow_kept HR.out hg1 HCU.out.box (by decide))
        have hbx1 := HBX.out.kept hg1 (by intro e; injection e with e; omega)
        have HBX1 := Lib.hid hbx1
        have HG1 := Lib.hid (grownBy_trans HG.out hg1 (.inl rfl))
        have HC1 := Lib.hid hc1
        clear d0 d1 d2 d3 hz hg1 HR HBX HG HCU hc1
        have d0 := (blk_facts hbx1).1 0
        have d1 := (blk_facts hbx1).1 1
        have d2 := (blk_facts hbx1).1 2
        have d3 := (blk_facts hbx1).1 3
        have hz := (Array.getElem?_eq_some_iff.1 hbx1).1
        clear hbx1
        -- what is told, and whether it is in bounds
        have hkey : (∃ bo : Bool, boundI c.s v = bo ∧ I64 v ∧ -8589934592 ≤ v ∧ v ≤ 8589934592 ∧ ((bo = true ∧ RdSt c l n k (vs ++ [c.sum last v]) (c.sum last v) m' e') ∨ (bo = false ∧ e' = 0 ∧ ∀ ws last', RdSt c l n k ws last' m' 5))) := by
          cases hgt : c.get (l.drop m) with
          | error e2 =>
            rw [hgt] at ho
            obtain ⟨rfl, h1, rfl⟩ := ho
            exact ⟨true, boundI_zero _, by unfold I64; omega, by omega, by omega, .inl ⟨rfl, HST.out.step_bad hlt hgt h1⟩⟩
          | ok p =>
            obtain ⟨v2, r2⟩ := p
            rw [hgt] at ho
            obtain ⟨rfl, rfl, h3⟩ := ho
            dsimp only at *
            subst h3
            have hin := c.get_in HC.out hgt
            dsimp only at hin
            cases hbd : boundI c.s v with
            | true => exact ⟨true, rfl, by unfold I64; omega, hin.1, hin.2, .inl ⟨rfl, HST.out.step_ok hlt hml hm' hgt hbd⟩⟩
            | false => exact ⟨false, rfl, by unfold I64; omega, hin.1, hin.2, .inr ⟨rfl, rfl, fun ws last' => HST.out.step_out hlt hgt hbd⟩⟩
        obtain ⟨bo, hbo, hv, hv1, hv2, hcase⟩ := hkey
        have HCASE := Lib.hid hcase
        have HBO := Lib.hid hbo
        have HV := Lib.hid hv
        clear ho hcase hbo
        go_wp2_with fail
        refine (HBd.out v hv _).mono ?_
        rintro ex z1 ⟨rfl, hb2⟩
        rw [HBO.out]
        have HR2 := Lib.hid (HR1.out.grow hb2)
        have hbx2 := HBX1.out.grow hb2
        have HBX2 := Lib.hid hbx2
        have HG2 := Lib.hid (grownBy_trans HG1.out (grownBy_below hb2 none) (.inr fun g e => by cases e))
        have HC2 := Lib.hid (HC1.out.grow hb2)
        clear d0 d1 d2 d3 hz hb2 HR1 HBX1 HG1 HC1 hv
        have d0 := (blk_facts hbx2).1 0
        have d1 := (blk_facts hbx2).1 1
        have d2 := (blk_facts hbx2).1 2
        have d3 := (blk_facts hbx2).1 3
        have hz := (Array.getElem?_eq_some_iff.1 hbx2).1
        clear hbx2
        cases bo with
        | true =>
          obtain ⟨q5, hst2⟩ : True ∧ RdSt c l n k (vs ++ [c.sum last v]) (c.sum last v) m' e' := by
            rcases HCASE.out with ⟨_, h⟩ | ⟨h, _⟩
            · exact ⟨trivial, h⟩
            · cases h
          have HS2 := Lib.hid hst2
          have HR3 := HR2
          have HBX3 := HBX2
          have HG3 := HG2
          have HC3 := HC2
          clear hst2 q5 HCASE HR2 HBX2 HG2 HC2
          by_cases hd : c.d = 1
          · have q : ((c.d : Int) == 1) = true := by simp; omega
            have hsum := Lib.hid (show c.sum last v = roundI c.s (last + v) by unfold Cod.sum; rw [if_pos hd])
            have hri := roundI_in c.s (last + v)
            have hsb : I64 (last + v) := by unfold I64; omega
            clear hd
            go_wp2_with fail
            refine (HRd.out (last + v) hsb _).mono ?_
            rintro ex z4 ⟨rfl, hb4⟩
            have HR4 := Lib.hid (HR3.out.grow hb4)
            have HBX4 := Lib.hid (HBX3.out.grow hb4)
            have HG4 := Lib.hid (grownBy_trans HG3.out (grownBy_below hb4 none) (.inr fun g e => by cases e))
            have HC4 := Lib.hid (HC3.out.grow hb4)
            clear d0 d1 d2 d3 hz hb4 HR3 HBX3 HG3 HC3 hsb q
            generalize hw : roundI c.s (last + v) = w1 at *
            have hw9 := hsum
            clear hw hsum
            have k1 := Lib.hid (fun (o : Obj) => (Below.refl z4.heap.size z4).alloc (Nat.le_refl _) o)
            have hzs : x.heap.size ≤ z4.heap.size := HG4.out.size
            go_wp2_with (at_builtin; refine Pp.wpList_app1 rfl _ _ rfl x.heap.size _ vs rfl (HR4.out.grow (k1.out _)) z4.heap.size w1 _ _ rfl (heap_alloc_new _ _) (by omega) (Nat.le_trans hzs (k1.out _).size) ?_; intro v5 z5 hr5 hp5; have HR5 := Lib.hid hr5; have HBX5 := Lib.hid (ibox_hop (HR4.out.grow (k1.out _)) hp5 (HBX4.out.grow (k1.out _)) (by decide)); have HC5 := Lib.hid (H0.out.hop (HC4.out.grow (k1.out _)) hp5.1 (fun g e => (HR4.out.base_le e))); have HG5 := Lib.hid (grownBy_trans (grownBy_trans HG4.out (grownBy_below (k1.out _) none) (.inr fun g e => by cases e)) hp5.1 (.inr fun g e => HR4.out.base_le e)); clear hr5 hp5)
            obtain ⟨A5, c5, rfl, _⟩ := HR5.out.reads
            go_roundw
            case rel => exact ⟨vs ++ [w1], w1, m', e', rfl, by omega, by omega, by simp; omega, by simp; omega, HR5.out, HC5.out, HG5.out, HBX5.out, hw9.out ▸ HS2.out⟩
            case measure => simp [sliceLen]; omega
          · have q : ((c.d : Int) == 1) = false := by simp; omega
            have hw9 := Lib.hid (show c.sum last v = v by unfold Cod.sum; rw [if_neg hd])
            have HR4 := HR3
            have HBX4 := HBX3
            have HG4 := HG3
            have HC4 := HC3
            clear hd HR3 HBX3 HG3 HC3
            have k1 := Lib.hid (fun (o : Obj) => (Below.refl z1.heap.size z1).alloc (Nat.le_refl _) o)
            have hzs : x.heap.size ≤ z1.heap.size := HG4.out.size
            go_wp2_with (at_builtin; refine Pp.wpList_app1 rfl _ _ rfl x.heap.size _ vs rfl (HR4.out.grow (k1.out _)) z1.heap.size v _ _ rfl (heap_alloc_new _ _) (by omega) (Nat.le_trans hzs (k1.out _).size) ?_; intro v5 z5 hr5 hp5; have HR5 := Lib.hid hr5; have HBX5 := Lib.hid (ibox_hop (HR4.out.grow (k1.out _)) hp5 (HBX4.out.grow (k1.out _)) (by decide)); have HC5 := Lib.hid (H0.out.hop (HC4.out.grow (k1.out _)) hp5.1 (fun g e => (HR4.out.base_le e))); have HG5 := Lib.hid (grownBy_trans (grownBy_trans HG4.out (grownBy_below (k1.out _) none) (.inr fun g e => by cases e)) hp5.1 (.inr fun g e => HR4.out.base_le e)); clear hr5 hp5)
            obtain ⟨A5, c5, rfl, _⟩ := HR5.out.reads
            go_roundw
            case rel => exact ⟨vs ++ [v], v, m', e', rfl, by omega, by omega, by simp; omega, by simp; omega, HR5.out, HC5.out, HG5.out, HBX5.out, hw9.out ▸ HS2.out⟩
            case measure => simp [sliceLen]; omega
        | false =>
          obtain ⟨q5, hst2⟩ : e' = 0 ∧ ∀ ws last', RdSt c l n k ws last' m' 5 := by
            rcases HCASE.out with ⟨h, _⟩ | ⟨_, h⟩
            · cases h
            · exact h
          subst q5
          have HS2 := Lib.hid hst2
          have HFl := Lib.hid (cfail_any 5 HC2.out)
          clear hst2 HCASE
          go_wp2_with fail
          refine HFl.out.mono ?_
          rintro ex z2 ⟨rfl, hc3, hg3⟩
          have e9 : fe 0 5 = 5 := rfl
          rw [e9] at hc3
          have HR3 := Lib.hid (irow_kept HR2.out hg3 HC2.out.box (by decide))
          have hbx3 := HBX2.out.kept hg3 (by intro e; injection e with e; omega)
          have HBX3 := Lib.hid hbx3
          have HG3 := Lib.hid (grownBy_trans HG2.out hg3 (.inl rfl))
          have HC3 := Lib.hid hc3
          clear d0 d1 d2 d3 hz hg3 hc3 HR2 HBX2 HG2 HC2 HFl e9
          have d0 := (blk_facts hbx3).1 0
          have d1 := (blk_facts hbx3).1 1
          have d2 := (blk_facts hbx3).1 2
          have d3 := (blk_facts hbx3).1 3
          have hz := (Array.getElem?_eq_some_iff.1 hbx3).1
          clear hbx3
          by_cases hd : c.d = 1
          · have q : ((c.d : Int) == 1) = true := by simp; omega
            have hsum := Lib.hid (show c.sum last v = roundI c.s (last + v) by unfold Cod.sum; rw [if_pos hd])
            have hri := roundI_in c.s (last + v)
            have hsb : I64 (last + v) := by unfold I64; omega
            clear hd
            go_wp2_with fail
            refine (HRd.out (last + v) hsb _).mono ?_
            rintro ex z4 ⟨rfl, hb4⟩
            have HR4 := Lib.hid (HR3.out.grow hb4)
            have HBX4 := Lib.hid (HBX3.out.grow hb4)
            have HG4 := Lib.hid (grownBy_trans HG3.out (grownBy_below hb4 none) (.inr fun g e => by cases e))
            have HC4 := Lib.hid (HC3.out.grow hb4)
            clear d0 d1 d2 d3 hz hb4 HR3 HBX3 HG3 HC3 hsb q
            generalize hw : roundI c.s (last + v) = w1 at *
            have hw9 := hsum
            clear hw hsum
            have k1 := Lib.hid (fun (o : Obj) => (Below.refl z4.heap.size z4).alloc (Nat.le_refl _) o)
            have hzs : x.heap.size ≤ z4.heap.size := HG4.out.size
            go_wp2_with (at_builtin; refine Pp.wpList_app1 rfl _ _ rfl x.heap.size _ vs rfl (HR4.out.grow (k1.out _)) z4.heap.size w1 _ _ rfl (heap_alloc_new _ _) (by omega) (Nat.le_trans hzs (k1.out _).size) ?_; intro v5 z5 hr5 hp5; have HR5 := Lib.hid hr5; have HBX5 := Lib.hid (ibox_hop (HR4.out.grow (k1.out _)) hp5 (HBX4.out.grow (k1.out _)) (by decide)); have HC5 := Lib.hid (H0.out.hop (HC4.out.grow (k1.out _)) hp5.1 (fun g e => (HR4.out.base_le e))); have HG5 := Lib.hid (grownBy_trans (grownBy_trans HG4.out (grownBy_below (k1.out _) none) (.inr fun g e => by cases e)) hp5.1 (.inr fun g e => HR4.out.base_le e)); clear hr5 hp5)
            obtain ⟨A5, c5, rfl, _⟩ := HR5.out.reads
            go_roundw
            case rel => exact ⟨vs ++ [w1], w1, m', 5, rfl, by omega, by omega, by simp; omega, by simp; omega, HR5.out, HC5.out, HG5.out, HBX5.out, HS2.out _ _⟩
            case measure => simp [sliceLen]; omega
          · have q : ((c.d : Int) == 1) = false := by simp; omega
            have hw9 := Lib.hid (show c.sum last v = v by unfold Cod.sum; rw [if_neg hd])
            have HR4 := HR3
            have HBX4 := HBX3
            have HG4 := HG3
            have HC4 := HC3
            clear hd HR3 HBX3 HG3 HC3
            have k1 := Lib.hid (fun (o : Obj) => (Below.refl z2.heap.size z2).alloc (Nat.le_refl _) o)
            have hzs : x.heap.size ≤ z2.heap.size := HG4.out.size
            go_wp2_with (at_builtin; refine Pp.wpList_app1 rfl _ _ rfl x.heap.size _ vs rfl (HR4.out.grow (k1.out _)) z2.heap.size v _ _ rfl (heap_alloc_new _ _) (by omega) (Nat.le_trans hzs (k1.out _).size) ?_; intro v5 z5 hr5 hp5; have HR5 := Lib.hid hr5; have HBX5 := Lib.hid (ibox_hop (HR4.out.grow (k1.out _)) hp5 (HBX4.out.grow (k1.out _)) (by decide)); have HC5 := Lib.hid (H0.out.hop (HC4.out.grow (k1.out _)) hp5.1 (fun g e => (HR4.out.base_le e))); have HG5 := Lib.hid (grownBy_trans (grownBy_trans HG4.out (grownBy_below (k1.out _) none) (.inr fun g e => by cases e)) hp5.1 (.inr fun g e => HR4.out.base_le e)); clear hr5 hp5)
            obtain ⟨A5, c5, rfl, _⟩ := HR5.out.reads
            go_roundw
            case rel => exact ⟨vs ++ [v], v, m', 5, rfl, by omega, by omega, by simp; omega, by simp; omega, HR5.out, HC5.out, HG5.out, HBX5.out, HS2.out _ _⟩
            case measure => simp [sliceLen]; omega
      · have q1 : decide ((vs.length : Int) < (k : Int)) = false := decide_eq_false (by omega)
        have hfin := Lib.hid (HST.out.done hlt)
        clear hbx hst
        go_wp2_with fail
        refine HE.out.mono ?_
        rintro ex z ⟨rfl, ez⟩
        have ez := ez.symm
        subst ez
        go_wp2_with fail
        refine HE.out.mono ?_
        rintro ex z ⟨rfl, ez⟩
        have ez := ez.symm
        subst ez
        go_wp2_with fail
        go_ret
        exact ⟨_, vs, m, 0, rfl, HR.out, HCU.out, outc_ok hfin.out, HG.out⟩
    · have q0 : (e == 0) = false := by simpa using he
      have q2 : (e != 0) = true := by simpa using he
      have hfin := Lib.hid (HST.out.bad he)
      have HEN := Lib.hid he
      clear hbx hst he
      go_wp2_with fail
      refine HE.out.mono ?_
      rintro ex z ⟨rfl, ez⟩
      have ez := ez.symm
      subst ez
      go_wp2_with fail
      refine HE.out.mono ?_
      rintro ex z ⟨rfl, ez⟩
      have ez := ez.symm
      subst ez
      go_wp2_with fail
      go_ret
      exact ⟨_, [], m, e, rfl, IRow.nil _ _, HCU.out, outc_error hfin.out HEN.out, HG.out⟩
end
end Go.Proofs.Ytbdkoagagcemcaa

/- The walks of layer 2's cursor: bytes that are taken, a new cursor, and its end. -/
namespace Go.Proofs.Ytbdkoagagcemcaa
open Go.RowKit

theorem brow_lower {w : World} {base b' : Nat} {v : Value} {l : List UInt8} (h : BRow w base 5 v l) (hb : b' ≤ base) : BRow w b' 5 v l := by
  refine ⟨h.1, ?_⟩
  rcases h.2 with h2 | ⟨g, cap, cur, h2, h3, h4⟩
  · exact .inl h2
  · exact .inr ⟨g, cap, cur, h2, Nat.le_trans hb h3, h4⟩
section
variable {x : World} {b : Nat} {A : Option Addr} {c : Nat} {l : List UInt8} {n : Nat} {e : Int}
theorem cend_ok (h : CurS x b A c l n 0) (hn : n = l.length) : Calls Try.prog 27 #[.pointer (some ⟨b, 0, none⟩)] x fun ex y => ex = .returned (.int .i64 0) ∧ Below x.heap.size x y := by
  have HL := Lib.hid (cleft_any h)
  have H := Lib.hid h
  have hn2 : ((l.length - n : Nat) : Int) = 0 := by omega
  clear h hn
  go_enter Try.func27, Try.ntmps27
  go_wp2_with fail
  refine HL.out.mono ?_
  rintro ex y ⟨rfl, hb⟩
  rw [hn2]
  have HE := Lib.hid (cerr_any (H.out.grow hb))
  have HB := Lib.hid hb
  clear hb
  go_wp2_with fail
  refine HE.out.mono ?_
  rintro ex y2 ⟨rfl, ey⟩
  have ey := ey.symm
  subst ey
  go_wp2_with fail
  go_ret
  exact ⟨rfl, HB.out⟩
theorem ctake_ok (h : CurS x b A c l n 0) {k : Nat} (hk : n + k ≤ l.length) : Calls Try.prog 49 #[.pointer (some ⟨b, 0, none⟩), .int .i64 k] x fun ex y => (∃ u, ex = .returned u ∧ BRow y x.heap.size 5 u ((l.drop n).take k)) ∧ CurS y b A c l (n + k) 0 ∧ x.grownBy y (some b) := by
  have HN := Lib.hid (cnext_ok h hk)
  have hs := h.small
  have hl2 : ((l.drop n).take k).length = k := by rw [List.length_take, List.length_drop]; omega
  clear h
  go_enter Try.func49, Try.ntmps49
  go_wp2_with fail
  refine HN.out.mono ?_
  rintro ex y ⟨⟨A', c', rfl, hB, hA⟩, h1, hg⟩
  have HC := bclone_any A' c' ((l.drop n).take k) y hB (by omega) hA
  rw [hl2] at HC
  have HC := Lib.hid HC
  have H1 := Lib.hid h1
  have G1 := Lib.hid hg
  clear h1 hg hB hA
  go_wp2_with fail
  refine HC.out.mono ?_
  rintro ex z ⟨u, rfl, hr, hb⟩
  have HR := Lib.hid hr
  have HB := Lib.hid hb
  clear hr hb
  go_wp2_with fail
  go_ret
  exact ⟨⟨u, rfl, brow_lower HR.out G1.out.size⟩, H1.out.grow HB.out, grownBy_trans G1.out (grownBy_below HB.out none) (.inr fun g e => by cases e)⟩
end
theorem cnew_any (A : Option Addr) (c : Nat) (l : List UInt8) (x : World) (hx : BAt x A c l) (hl : l.length ≤ 1000000) (hA : A = none → c = 0) :
    Calls Try.prog 11 #[.slice A l.length c] x fun ex y => ∃ b A' c', ex = .returned (.pointer (some ⟨b, 0, none⟩)) ∧ CurS y b A' c' l 0 0 ∧ x.heap.size ≤ b ∧ Below x.heap.size x y := by
  have HC := Lib.hid (fun w (h : BAt w A c l) => bclone_any A c l w h (by omega) hA)
  have HX := Lib.hid hx
  clear hx hA
  go_enter Try.func11, Try.ntmps11
  go_wp2_with fail
  refine (HC.out x HX.out).mono ?_
  rintro ex y ⟨u, rfl, hr, hb⟩
  obtain ⟨A', c', rfl, hB⟩ := hr.at_
  have hsh : (A' = none ∧ c' = 0) ∨ ∃ g, A' = some ⟨g, 0, none⟩ := by
    rcases hr.2 with ⟨h2, _⟩ | ⟨g, cap, cur, h2, _⟩
    · injection h2 with q1 q2 q3; exact .inl ⟨q1, q3⟩
    · injection h2 with q1 q2 q3; exact .inr ⟨g, q1⟩
  have HS := Lib.hid hsh
  have HB2 := Lib.hid hB
  have HB := Lib.hid hb
  clear hr hb hB hsh HC
  go_wp2_with fail
  go_ret
  exact ⟨_, _, _, rfl, ⟨heap_alloc_new _ _, HB2.out.grow ((Below.refl _ _).alloc (Nat.le_refl _) _), Nat.zero_le _, hl, HS.out⟩, HB.out.size, HB.out.alloc HB.out.size _⟩
end Go.Proofs.Ytbdkoagagcemcaa

/- The walks of layer 26: the codings, and a row that is read by a coding's number. -/
namespace Go.Proofs.Ytbdkoagagcemcaa
open Go.RowKit

/-- A coding's four cells. -/
def CAt (w : World) (g o : Nat) (c : Cod) : Prop :=
  w.cell? ⟨g, o, none⟩ = some (.int .i64 c.b) ∧ w.cell? ⟨g, o + 1, none⟩ = some (.int .i64 c.h) ∧ w.cell? ⟨g, o + 2, none⟩ = some (.int .i64 c.s) ∧ w.cell? ⟨g, o + 3, none⟩ = some (.int .i64 c.d)
def ccells : List Cod → List Value
  | [] => []
  | c :: cs => .int .i64 c.b :: .int .i64 c.h :: .int .i64 c.s :: .int .i64 c.d :: ccells cs
theorem ccells_get : ∀ {cs : List Cod} {j : Nat} {c : Cod}, cs[j]? = some c → (ccells cs)[j * 4]? = some (.int .i64 c.b) ∧ (ccells cs)[j * 4 + 1]? = some (.int .i64 c.h) ∧ (ccells cs)[j * 4 + 2]? = some (.int .i64 c.s) ∧ (ccells cs)[j * 4 + 3]? = some (.int .i64 c.d)
  | [], j, c, h => by simp at h
  | q :: cs, 0, c, h => by
    simp at h
    subst h
    exact ⟨rfl, rfl, rfl, rfl⟩
  | q :: cs, j + 1, c, h => by
    have := ccells_get (cs := cs) (j := j) (c := c) (by simpa using h)
    rw [show (j + 1) * 4 = j * 4 + 4 from by omega]
    simpa [ccells] using this
/-- A block with the codings. -/
def CodsAt (w : World) (g : Nat) : Prop := w.heap[g]? = some (.cells (ccells cods).toArray 38 (0, 0))
theorem CodsAt.grow {w w1 : World} {g : Nat} (h : CodsAt w g) (k : Below w.heap.size w w1) : CodsAt w1 g := (k.block g (Array.getElem?_eq_some_iff.1 h).1).trans h
theorem CodsAt.kept {w w1 : World} {g : Nat} {o : Option Nat} (h : CodsAt w g) (k : w.grownBy w1 o) (hne : some g ≠ o) : CodsAt w1 g := (k.block g (Array.getElem?_eq_some_iff.1 h).1 hne).trans h
theorem CodsAt.lt {w : World} {g : Nat} (h : CodsAt w g) : g < w.heap.size := (Array.getElem?_eq_some_iff.1 h).1
theorem CodsAt.at_ {w : World} {g : Nat} (h : CodsAt w g) {i : Nat} {c : Cod} (hc : cods[i]? = some c) : CAt w g (i * 4) c := by
  obtain ⟨h0, h1, h2, h3⟩ := ccells_get hc
  have hb := (blk_facts h).1
  unfold CAt
  rw [hb, hb, hb, hb]
  simp only [List.getElem?_toArray]
  exact ⟨h0, h1, h2, h3⟩
set_option maxRecDepth 100000 in
set_option maxHeartbeats 8000000 in
theorem codings_any (w : World) : Calls Try.prog 16 #[] w fun ex y => ex = .returned (.slice (some ⟨w.heap.size, 0, none⟩) 15 15) ∧ CodsAt y w.heap.size ∧ Below w.heap.size w y := by
  go_enter Try.func16, Try.ntmps16
  go_wp2
  go_ret
  exact ⟨rfl, heap_alloc_new _ _, (Below.refl _ _).alloc (Nat.le_refl _) _⟩
section
variable {x : World} {b : Nat} {A : Option Addr} {cc : Nat} {l : List UInt8} {n : Nat}
set_option maxHeartbeats 4000000 in
set_option maxRecDepth 100000 in
theorem bplain_any (h : CurS x b A cc l n 0) (kind k : Nat) (hkd : kind ≤ 1000) (hk : k ≤ 9223372036854775807) :
    Calls Try.prog 34 #[.pointer (some ⟨b, 0, none⟩), .int .i64 kind, .int .i64 k] x fun ex y => ∃ (u : Value) (vs : List Int) (m : Nat) (e : Int), ex = .returned u ∧ IRow y x.heap.size u vs ∧ CurS y b A cc l m e ∧ Outc (plainR kind k (l.drop n)) [] vs e (l.drop m) ∧ x.grownBy y (some b) := by
  have H0 := Lib.hid h
  have hls := h.small
  have hnl := h.le
  clear h
  go_enter Try.func34, Try.ntmps34
  go_wp2_with fail
  refine (codings_any x).mono ?_
  rintro ex y ⟨rfl, hcd, hb1⟩
  have hc1 := H0.out.grow hb1
  have hg1 := grownBy_below hb1 (some b)
  have HC1 := Lib.hid hc1
  have HG1 := Lib.hid hg1
  have HCD := Lib.hid hcd
  clear hb1 hg1
  by_cases hkd2 : kind < 15
  · have q1 : decide ((15 : Int) ≤ (kind : Int)) = false := decide_eq_false (by omega)
    have q2 : decide (15 ≤ kind) = false := decide_eq_false (by omega)
    obtain ⟨c, hc⟩ : ∃ c, cods[kind]? = some c := ⟨_, List.getElem?_eq_getElem (show kind < cods.length from hkd2)⟩
    have hok := Lib.hid (cods_ok c (List.mem_of_getElem? hc))
    have HL := Lib.hid (cleft_any hc1)
    have HCC := Lib.hid hc
    clear hc hc1
    go_wp2_with fail
    refine HL.out.mono ?_
    rintro ex z ⟨rfl, hb2⟩
    have hc2 := HC1.out.grow hb2
    have hcd2 := HCD.out.grow hb2
    obtain ⟨d0, d1, d2, d3⟩ := hcd2.at_ HCC.out
    have hz := hcd2.lt
    have HC2 := Lib.hid hc2
    have HG2 := Lib.hid (grownBy_trans HG1.out (grownBy_below hb2 none) (.inr fun g e => by cases e))
    have HCD2 := Lib.hid hcd2
    clear hb2 hcd2 HC1 HG1 HCD HL hcd
    by_cases hlt : l.length - n < k
    · have q3 : decide (((l.length - n : Nat) : Int) < (k : Int)) = true := decide_eq_true (by omega)
      have q4 : decide (l.length - n < k) = true := decide_eq_true hlt
      have hfin := Lib.hid (show plainR kind k (l.drop n) = .error 6 by
        unfold plainR; rw [HCC.out]; dsimp only; rw [if_pos (by rw [List.length_drop]; exact hlt)])
      have HFl := Lib.hid (cfail_any 6 hc2)
      clear hc2 hlt d0 d1 d2 d3 hz
      go_wp2_with fail
      refine HFl.out.mono ?_
      rintro ex z2 ⟨rfl, hc3, hg3⟩
      have e9 : fe 0 6 = 6 := rfl
      rw [e9] at hc3
      have hcd3 := HCD2.out.kept hg3 (by
        intro e
        injection e with e
        have := H0.out.lt
        omega)
      obtain ⟨d0, d1, d2, d3⟩ := hcd3.at_ HCC.out
      have hz := hcd3.lt
      have HG3 := Lib.hid (grownBy_trans HG2.out hg3 (.inl rfl))
      have HRR := Lib.hid (readrow_bad c hok.out hc3 (by decide) (k : Int) (by unfold I64; omega))
      unfold Cod.val at HRR
      clear hc3 hg3 hcd3 e9 HFl
      go_wp2_with fail
      refine HRR.out.mono ?_
      rintro ex z3 ⟨rfl, hc4, hg4⟩
      have HC4 := Lib.hid hc4
      have HG4 := Lib.hid (grownBy_trans HG3.out hg4 (.inl rfl))
      clear hc4 hg4
      go_wp2_with fail
      go_ret
      exact ⟨_, [], _, 6, rfl, IRow.nil _ _, HC4.out, outc_error hfin.out (by decide), HG4.out⟩
    · have q3 : decide (((l.length - n : Nat) : Int) < (k : Int)) = false := decide_eq_false (by omega)
      have q4 : decide (l.length - n < k) = false := decide_eq_false hlt
      have hfin := Lib.hid (show plainR kind k (l.drop n) = c.read k 0 (l.drop n) by
        unfold plainR; rw [HCC.out]; dsimp only; rw [if_neg (by rw [List.length_drop]; exact hlt)])
      have HRR := Lib.hid (readrow_any c hok.out hc2 k hk)
      unfold Cod.val at HRR
      clear hc2
      go_wp2_with fail
      refine HRR.out.mono ?_
      rintro ex z3 ⟨u, vs, m, e, rfl, hr4, hc4, ho4, hg4⟩
      have HC4 := Lib.hid hc4
      have HG4 := Lib.hid (grownBy_trans HG2.out hg4 (.inl rfl))
      have HR4 := Lib.hid (hr4.base HG2.out.size)
      have HO4 := Lib.hid ho4
      clear hc4 hg4 hr4 ho4
      go_wp2_with fail
      go_ret
      exact ⟨u, vs, m, e, rfl, HR4.out, HC4.out, by rw [hfin.out]; exact HO4.out, HG4.out⟩
  · have q1 : decide ((15 : Int) ≤ (kind : Int)) = true := decide_eq_true (by omega)
    have q2 : decide (15 ≤ kind) = true := decide_eq_true (by omega)
    have hfin := Lib.hid (show plainR kind k (l.drop n) = .error 9 by
      unfold plainR
      rw [List.getElem?_eq_none (show cods.length ≤ kind from (by have : cods.length = 15 := rfl; omega))])
    have HFl := Lib.hid (cfail_any 9 hc1)
    clear hc1 hcd
    go_wp2_with fail
    refine HFl.out.mono ?_
    rintro ex z2 ⟨rfl, hc3, hg3⟩
    have e9 : fe 0 9 = 9 := rfl
    rw [e9] at hc3
    have HC3 := Lib.hid hc3
    have HG3 := Lib.hid (grownBy_trans HG1.out hg3 (.inl rfl))
    clear hc3 hg3 HFl e9
    go_wp2_with fail
    go_ret
    exact ⟨_, [], _, 9, rfl, IRow.nil _ _, HC3.out, outc_error hfin.out (by decide), HG3.out⟩
end
end Go.Proofs.Ytbdkoagagcemcaa

/- The walks of layer 26: how many tokens are nought; the next row of three. -/
namespace Go.Proofs.Ytbdkoagagcemcaa
open Go.RowKit

set_option maxRecDepth 100000 in
theorem bcount_any (A : Option Addr) (c : Nat) (xs : List Int) (w : World) (hx : Ints w A c xs) (hn : xs.length ≤ 1000000) :
    Calls Try.prog 56 #[.slice A xs.length c] w fun e w' => e = .returned (.int .i64 (xs.count 0 : Nat)) ∧ w' = w := by
  have HX := Lib.hid hx
  clear hx
  go_enter Try.func56, Try.ntmps56
  go_wp2_with fail
  go_loop [3, 8] (fun s u => ∃ i : Nat, i ≤ xs.length ∧ u = .int .i64 i ∧ s = .int .i64 ((xs.take i).count 0 : Nat)) (fun _ u => xs.length - (intOf u).toNat)
  case atStart => exact ⟨0, Nat.zero_le _, rfl, rfl⟩
  case round =>
    obtain ⟨i, hi, rfl, rfl⟩ := hrel
    by_cases h1 : i < xs.length
    · obtain ⟨g, o, v, rfl, hg, hvi, hct⟩ := HX.out.at_ h1
      have hcl : (xs.take i).count 0 ≤ i := Nat.le_trans List.count_le_length (by rw [List.length_take]; omega)
      have hst := Lib.hid (show (xs.take (i + 1)).count 0 = (xs.take i).count 0 + if v = 0 then 1 else 0 by
        rw [List.take_succ_eq_append_getElem h1, List.count_append]
        have e : xs[i] = v := (List.getElem?_eq_some_iff.1 hvi).2
        rw [e]
        by_cases hv : v = 0
        · subst hv; simp
        · simp [hv])
      clear hvi
      generalize hc : (xs.take i).count 0 = m at *
      have HC := Lib.hid hc
      clear hc
      by_cases hv : v = 0
      · have q : (v == 0) = true := by simpa using hv
        have hst2 := Lib.hid (hst.out.trans (by rw [if_pos hv]))
        clear hst hv
        go_wp2_with fail
        go_round
        case rel => exact ⟨i + 1, by omega, by go_num, by rw [hst2.out]; go_num⟩
        case measure => simp [intOf]; omega
      · have q : (v == 0) = false := by simpa using hv
        have hst2 := Lib.hid (hst.out.trans (by rw [if_neg hv, Nat.add_zero]))
        clear hst hv
        go_wp2_with fail
        go_round
        case rel => exact ⟨i + 1, by omega, by go_num, by rw [hst2.out]⟩
        case measure => simp [intOf]; omega
    · have hii : i = xs.length := by omega
      subst hii
      rw [List.take_length]
      go_wp2_with fail
      go_ret
      exact ⟨rfl, rfl⟩
/-- A variable with the cursor. -/
def PcBox (w : World) (B b : Nat) : Prop := w.heap[B]? = some (.cells #[.pointer (some ⟨b, 0, none⟩)] 29 (0, 0))
theorem PcBox.lt {w : World} {B b : Nat} (h : PcBox w B b) : B < w.heap.size := (Array.getElem?_eq_some_iff.1 h).1
theorem PcBox.grow {w w1 : World} {B b : Nat} (h : PcBox w B b) (k : Below w.heap.size w w1) : PcBox w1 B b := (k.block B h.lt).trans h
theorem PcBox.kept {w w1 : World} {B b : Nat} {o : Option Nat} (h : PcBox w B b) (k : w.grownBy w1 o) (hne : some B ≠ o) : PcBox w1 B b := (k.block B h.lt hne).trans h
theorem PcBox.ne {w : World} {B b : Nat} {A : Option Addr} {cc : Nat} {l : List UInt8} {n : Nat} {e : Int} (h : PcBox w B b) (k : CurS w b A cc l n e) : some B ≠ some b := by
  intro e
  injection e with e
  subst e
  have h1 := h
  have h2 := k.box
  unfold PcBox at h1
  rw [h1] at h2
  injection h2 with h2
  injection h2 with _ h3 _
  exact absurd h3 (by decide)
/-- What is read next, whether there is an error ahead or not. -/
def NextRes (b : Nat) (A : Option Addr) (cc : Nat) (l : List UInt8) (n : Nat) (e : Int) (o : Except Int (List Int × List UInt8)) (x : World) (ex : Ending) (y : World) : Prop :=
  ∃ (u : Value) (vs : List Int) (m : Nat) (e' : Int), ex = .returned u ∧ IRow y x.heap.size u vs ∧ CurS y b A cc l m e' ∧ (e = 0 → Outc o [] vs e' (l.drop m)) ∧ (e ≠ 0 → vs = [] ∧ e' = e) ∧ x.grownBy y (some b)
section
variable {x : World} {b : Nat} {A : Option Addr} {cc : Nat} {l : List UInt8} {n : Nat} {e : Int}
set_option maxHeartbeats 4000000 in
set_option maxRecDepth 100000 in
theorem next_any (B : Nat) (h : CurS x b A cc l n e) (hp : PcBox x B b) (k : Nat) (hk : k ≤ 9223372036854775807) :
    Calls Try.prog 55 #[.int .i64 k, .pointer (some ⟨B, 0, none⟩)] x (NextRes b A cc l n e (nextR k (l.drop n)) x) := by
  have H0 := Lib.hid h
  have HP := Lib.hid hp
  have hne := hp.ne h
  have hz := hp.lt
  have c0 : x.cell? ⟨B, 0, none⟩ = some (.pointer (some ⟨b, 0, none⟩)) := (blk_facts hp).1 0
  have hnl := h.le
  by_cases he : e = 0
  · subst he
    by_cases hend : n < l.length
    · obtain ⟨a, ha⟩ : ∃ a, l[n]? = some a := ⟨_, List.getElem?_eq_getElem hend⟩
      have HB := Lib.hid (cbig_ok h ha)
      have hab := a.toNat_lt
      have hfin := Lib.hid (show nextR k (l.drop n) = plainR a.toNat k (l.drop (n + 1)) by rw [drop_atI ha]; rfl)
      clear h hp ha
      go_enter Try.func55, Try.ntmps55
      go_wp2_with fail
      refine HB.out.mono ?_
      rintro ex z ⟨rfl, hc1, hg1⟩
      have hp1 := HP.out.kept hg1 hne
      have c1 : z.cell? ⟨B, 0, none⟩ = some (.pointer (some ⟨b, 0, none⟩)) := (blk_facts hp1).1 0
      have hz1 := hp1.lt
      have HE := Lib.hid (cerr_any hc1)
      have HPl := Lib.hid (bplain_any hc1 a.toNat k (by omega) hk)
      have HG1 := Lib.hid hg1
      clear hc1 hg1 hp1 c0 hz HB
      go_wp2_with fail
      refine HE.out.mono ?_
      rintro ex z2 ⟨rfl, ez⟩
      have ez := ez.symm
      subst ez
      go_wp2_with fail
      refine HPl.out.mono ?_
      rintro ex z2 ⟨u, vs, m, e', rfl, hr, hc2, ho, hg2⟩
      have HR := Lib.hid (hr.base HG1.out.size)
      have HC := Lib.hid hc2
      have HO := Lib.hid ho
      have HG := Lib.hid (grownBy_trans HG1.out hg2 (.inl rfl))
      clear hr hc2 ho hg2 HPl HE
      go_wp2_with fail
      go_ret
      exact ⟨u, vs, m, e', rfl, HR.out, HC.out, fun _ => by rw [hfin.out]; exact HO.out, fun h => absurd rfl h, HG.out⟩
    · have HB := Lib.hid (cbig_end h (by omega))
      have hfin := Lib.hid (show nextR k (l.drop n) = .error 6 by rw [List.drop_of_length_le (by omega)]; rfl)
      clear h hp
      go_enter Try.func55, Try.ntmps55
      go_wp2_with fail
      refine HB.out.mono ?_
      rintro ex z ⟨rfl, hc1, hg1⟩
      have hp1 := HP.out.kept hg1 hne
      have c1 : z.cell? ⟨B, 0, none⟩ = some (.pointer (some ⟨b, 0, none⟩)) := (blk_facts hp1).1 0
      have hz1 := hp1.lt
      have HE := Lib.hid (cerr_any hc1)
      have HC := Lib.hid hc1
      have HG1 := Lib.hid hg1
      clear hc1 hg1 hp1 c0 hz HB
      go_wp2_with fail
      refine HE.out.mono ?_
      rintro ex z2 ⟨rfl, ez⟩
      have ez := ez.symm
      subst ez
      go_wp2_with fail
      go_ret
      exact ⟨_, [], _, 6, rfl, IRow.nil _ _, HC.out, fun _ => outc_error hfin.out (by decide), fun h => absurd rfl h, HG1.out⟩
  · have HB := Lib.hid (cbig_bad h he)
    have HE := Lib.hid (cerr_any h)
    have q : (e != 0) = true := by simpa using he
    have HEN := Lib.hid he
    clear h hp he
    go_enter Try.func55, Try.ntmps55
    go_wp2_with fail
    refine HB.out.mono ?_
    rintro ex z ⟨rfl, ez⟩
    have ez := ez.symm
    subst ez
    go_wp2_with fail
    refine HE.out.mono ?_
    rintro ex z2 ⟨rfl, ez⟩
    have ez := ez.symm
    subst ez
    go_wp2_with fail
    go_ret
    exact ⟨_, [], n, e, rfl, IRow.nil _ _, H0.out, fun h => absurd h HEN.out, fun _ => ⟨rfl, rfl⟩, World.grownBy.refl _ _⟩
end
end Go.Proofs.Ytbdkoagagcemcaa

/- Layer 26: a row by its favorites, read in three: what it comes to. -/
namespace Go.Proofs.Ytbdkoagagcemcaa
open Go.RowKit Pp

theorem read_in (c : Cod) : ∀ (n : Nat) (last : Int) (r : List UInt8) (q : List Int × List UInt8), c.read n last r = .ok q → ∀ v ∈ q.1, -2147483648 ≤ v ∧ v < 4294967296
  | 0, last, r, q, h, v, hv => by
    simp only [Cod.read, Except.ok.injEq] at h
    subst h
    cases hv
  | n + 1, last, r, q, h, v, hv => by
    rw [Cod.read_succ] at h
    cases hg : c.get r with
    | error e => rw [hg] at h; cases h
    | ok p =>
      rw [hg] at h
      dsimp only at h
      split at h
      · rename_i hb
        cases hr : c.read n (c.sum last p.1) p.2 with
        | error e => rw [hr] at h; cases h
        | ok q2 =>
          rw [hr] at h
          simp only [pre, Except.ok.injEq] at h
          subst h
          rcases List.mem_cons.1 hv with rfl | hv
          · exact c.sum_in last hb
          · exact read_in c n _ _ _ hr v hv
      · cases h
theorem plainR_facts {kind n : Nat} {r : List UInt8} {q : List Int × List UInt8} (h : plainR kind n r = .ok q) : q.1.length = n ∧ n ≤ r.length ∧ ∀ v ∈ q.1, -2147483648 ≤ v ∧ v < 4294967296 := by
  unfold plainR at h
  cases hc : cods[kind]? with
  | none => rw [hc] at h; cases h
  | some c =>
    rw [hc] at h
    dsimp only at h
    split at h
    · cases h
    · rename_i hl
      exact ⟨read_len c n 0 r q h, by omega, read_in c n 0 r q h⟩
theorem nextR_facts {n : Nat} {r : List UInt8} {q : List Int × List UInt8} (h : nextR n r = .ok q) : q.1.length = n ∧ n ≤ r.length ∧ ∀ v ∈ q.1, -2147483648 ≤ v ∧ v < 4294967296 := by
  cases r with
  | nil => cases h
  | cons k r =>
    have := plainR_facts (show plainR k.toNat n r = .ok q from h)
    refine ⟨this.1, ?_, this.2.2⟩
    simp only [List.length_cons]
    omega
theorem i64_of {vs : List Int} (h : ∀ v ∈ vs, -2147483648 ≤ v ∧ v < 4294967296) : ∀ v ∈ vs, I64 v := fun v hv => by
  have := h v hv
  unfold I64
  omega
/-- The three rows, and what they join to. -/
def trio (m n : Nat) (r : List UInt8) : Except Int (List Int × List UInt8) :=
  match nextR m r with
  | .error e => .error e
  | .ok (fs, r1) => match nextR n r1 with
    | .error e => .error e
    | .ok (ts, r2) => match nextR (ts.count 0) r2 with
      | .error e => .error e
      | .ok (rs, r3) => if Po.err fs ts rs = 0 then .ok (Po.out fs ts rs, r3) else .error (Po.err fs ts rs)
theorem joinR_trio {n : Nat} {m : UInt8} (hm : ¬ (m.toNat < 1 ∨ 15 < m.toNat)) (r : List UInt8) : joinR n (m :: r) = trio m.toNat n r := joinR_cons hm r
theorem joinR_bad {n : Nat} {m : UInt8} (hm : m.toNat < 1 ∨ 15 < m.toNat) (r : List UInt8) : joinR n (m :: r) = .error 2 := by
  show (if m.toNat < 1 ∨ 15 < m.toNat then Except.error 2 else _) = _
  rw [if_pos hm]
/-- What the three calls of 'next' tell. -/
theorem trio_of {m n : Nat} {L l1 l2 l3 : List UInt8} {fs ts rs : List Int} {e1 e2 e3 : Int}
    (h1 : Outc (nextR m L) [] fs e1 l1) (h2 : e1 = 0 → Outc (nextR n l1) [] ts e2 l2) (k2 : e1 ≠ 0 → ts = [] ∧ e2 = e1)
    (h3 : e2 = 0 → Outc (nextR (ts.count 0) l2) [] rs e3 l3) (k3 : e2 ≠ 0 → rs = [] ∧ e3 = e2) :
    (e3 ≠ 0 ∧ trio m n L = .error e3) ∨ (e3 = 0 ∧ (trio m n L = if Po.err fs ts rs = 0 then .ok (Po.out fs ts rs, l3) else .error (Po.err fs ts rs)) ∧
      fs.length = m ∧ ts.length = n ∧ m ≤ L.length ∧ n ≤ l1.length ∧ rs.length = ts.count 0 ∧ (∀ v ∈ fs, I64 v) ∧ (∀ v ∈ rs, I64 v)) := by
  unfold trio
  cases g1 : nextR m L with
  | error e =>
    rw [g1] at h1
    obtain ⟨rfl, hne, rfl⟩ := h1
    obtain ⟨rfl, rfl⟩ := k2 hne
    obtain ⟨rfl, rfl⟩ := k3 hne
    exact .inl ⟨hne, rfl⟩
  | ok p1 =>
    obtain ⟨f0, q1⟩ := p1
    rw [g1] at h1
    obtain ⟨rfl, rfl, rfl⟩ := h1
    dsimp only at *
    have h2 := h2 rfl
    cases g2 : nextR n l1 with
    | error e =>
      rw [g2] at h2
      obtain ⟨rfl, hne, rfl⟩ := h2
      obtain ⟨rfl, rfl⟩ := k3 hne
      exact .inl ⟨hne, rfl⟩
    | ok p2 =>
      obtain ⟨t0, q2⟩ := p2
      rw [g2] at h2
      obtain ⟨rfl, rfl, rfl⟩ := h2
      dsimp only at *
      have h3 := h3 rfl
      cases g3 : nextR (ts.count 0) l2 with
      | error e =>
        rw [g3] at h3
        obtain ⟨rfl, hne, rfl⟩ := h3
        exact .inl ⟨hne, rfl⟩
      | ok p3 =>
        obtain ⟨r0, q3⟩ := p3
        rw [g3] at h3
        obtain ⟨rfl, rfl, rfl⟩ := h3
        have f1 := nextR_facts g1
        have f2 := nextR_facts g2
        have f3 := nextR_facts g3
        exact .inr ⟨rfl, rfl, f1.1, f2.1, f1.2.1, f2.2.1, f3.1, i64_of f1.2.2, i64_of f3.2.2⟩
theorem po_out_err {fs ts rs : List Int} (h : Po.err fs ts rs ≠ 0) : Po.out fs ts rs = [] := if_neg h
end Go.Proofs.Ytbdkoagagcemcaa
