/- The walk of layer 16's document: constants hold. -/
import Derived.Test.YtimheacdaafodaaWalksF
namespace Go.Proofs.Ytimheacdaafodaa
open Go.RowKit

theorem raws_each {O : List Pv} {i : Nat} {e : Rw} (h : (Pv.raws O)[i]? = some e) (hi : 0 < i) : ∃ q, (Pv.raws O)[i - 1]? = some q ∧ (Pv.form q.tag = 56 ∧ e = Rw.zero ∨ Pv.form q.tag ≠ 56 ∧ ∃ v ∈ O, e = v.rawOf (Pv.num O)) := by
  obtain ⟨j, rfl⟩ : ∃ j, i = j + 1 := ⟨i - 1, by omega⟩
  unfold Pv.raws at h ⊢
  rw [List.getElem?_cons_succ] at h
  exact each_from (Pv.num O) O Rw.zero (by decide) j e h
theorem raws_last (O : List Pv) : ∃ q, (Pv.raws O)[(Pv.raws O).length - 1]? = some q ∧ Pv.form q.tag ≠ 56 := by
  unfold Pv.raws
  obtain ⟨q, h1, h2⟩ := last_from (Pv.num O) O Rw.zero (by decide)
  exact ⟨q, by rw [List.length_cons, Nat.add_sub_cancel]; exact h1, h2⟩
theorem Raws.place {w : World} {A : Option Addr} {c : Nat} {L : List Rw} {n : Nat} {e : Rw} (hx : Raws w A c L) (h : L[n]? = some e) : ∃ g o, A = some ⟨g, o, none⟩ ∧ g < w.heap.size ∧ RAt w g (o + n * 5) e := by
  obtain ⟨g, o, e', rfl, hg, he, hc⟩ := hx.at_ (List.getElem?_eq_some_iff.1 h).1
  rw [h] at he
  cases he
  exact ⟨g, o, rfl, hg, hc⟩
theorem zero_at {w : World} {g o : Nat} (h : RAt w g o Rw.zero) : w.cell? ⟨g, o, none⟩ = some (.int .i64 0) ∧ w.cell? ⟨g, o + 1, none⟩ = some (.string ⟨#[]⟩) ∧ w.cell? ⟨g, o + 2, none⟩ = some (.int .u64 0) ∧ w.cell? ⟨g, o + 3, none⟩ = some (.int .i64 0) ∧ w.cell? ⟨g, o + 4, none⟩ = some (.int .i64 0) := h
theorem eq_zero0 (x : World) : (Op.equalIn 10000 49 (.agg #[.int .i64 0, .string ⟨#[]⟩, .int .u64 0, .int .i64 0, .int .i64 0]) (.agg #[.int .i64 0, .string ⟨#[]⟩, .int .u64 0, .int .i64 0, .int .i64 0])).run Try.prog x = .ok true x := (eq_raw Rw.zero Rw.zero x).trans (by rw [decide_eq_true rfl])
set_option maxRecDepth 100000 in
set_option maxHeartbeats 4000000 in
theorem holds_any (A : Option Addr) (c : Nat) (O : List Pv) (w : World) (hx : Raws w A c (Pv.raws O)) (hL : (Pv.raws O).length ≤ 1000000) (hcl : ∀ v ∈ O, ∀ x ∈ v.needs, x ∈ O) (hok : ∀ v ∈ O, v.chk 0 9 5 = 0) :
    Calls Try.prog 15 #[.slice A (Pv.raws O).length c] w fun e w' => e = .returned (.bool true) ∧ Below w.heap.size w w' := by
  have HR := Lib.hid (fun w h v hv => right_any A c O v w h hL hcl hok hv)
  unfold rr at HR
  have HE := Lib.hid (fun i e h hi => raws_each (O := O) (i := i) (e := e) h hi)
  obtain ⟨lq, hl1, hl2⟩ := raws_last O
  have hLP := hx.place hl1
  have HZ := Lib.hid eq_zero0
  obtain ⟨g, o, rfl, hg, z0, z1, z2, z3, z4⟩ : ∃ g o, A = some ⟨g, o, none⟩ ∧ g < w.heap.size ∧ w.cell? ⟨g, o, none⟩ = some (.int .i64 0) ∧ w.cell? ⟨g, o + 1, none⟩ = some (.string ⟨#[]⟩) ∧ w.cell? ⟨g, o + 2, none⟩ = some (.int .u64 0) ∧ w.cell? ⟨g, o + 3, none⟩ = some (.int .i64 0) ∧ w.cell? ⟨g, o + 4, none⟩ = some (.int .i64 0) := by
    obtain ⟨g, o, rfl, hg, h⟩ := hx.place (n := 0) (e := Rw.zero) rfl
    rw [Nat.zero_mul, Nat.add_zero] at h
    exact ⟨g, o, rfl, hg, zero_at h⟩
  have hpos : 0 < (Pv.raws O).length := by unfold Pv.raws; simp
  have HX := Lib.hid hx
  have HLP := Lib.hid (show RAt w g (o + ((Pv.raws O).length - 1) * 5) lq by
    obtain ⟨g', o', e, _, h⟩ := hLP
    cases e
    exact h)
  clear hx hLP hcl hok hl1
  generalize Pv.raws O = L at *
  have q1 : ((L.length : Int) == 0) = false := by rw [beq_eq_false_iff_ne]; omega
  have q2 : (L.length == 0) = false := by rw [beq_eq_false_iff_ne]; omega
  have q3 : decide (0 < L.length) = true := decide_eq_true hpos
  have he := HZ.out
  go_enter Try.func15, Try.ntmps15
  go_wp2_with fail
  clear z0 z1 z2 z3 z4 q1 q2 q3
  go_loopw [16] (fun t wr => ∃ i : Nat, i ≤ L.length ∧ t = .int .i64 i ∧ Below w.heap.size w wr) (fun t _ => L.length - (intOf t).toNat)
  case atStart => exact ⟨0, Nat.zero_le _, rfl, Below.refl _ _⟩
  case round =>
    obtain ⟨i, hil, rfl, hB⟩ := hrel
    have MB := Lib.hid hB
    clear hB he
    by_cases hi : i < L.length
    · obtain ⟨g', o', e, e1, _, hv, c0, c1, c2, c3, c4⟩ := (HX.out.grow MB.out).at_ hi
      cases e1
      have hgr := Nat.lt_of_lt_of_le hg MB.out.size
      have p1 : decide ((i : Int) < (L.length : Int)) = true := decide_eq_true (by omega)
      have p2 : decide (i < L.length) = true := decide_eq_true hi
      by_cases h0 : i = 0
      · subst h0
        clear c0 c1 c2 c3 c4 hv
        go_wp2_with fail
        go_roundw
        case rel => exact ⟨0 + 1, by omega, by go_num, MB.out⟩
        case measure => simp [intOf]; omega
      · have p3 : decide ((0 : Int) < (i : Int)) = true := decide_eq_true (by omega)
        have p3' : decide (0 < i) = true := decide_eq_true (by omega)
        obtain ⟨q, hq, hcase⟩ := HE.out i e hv (by omega)
        obtain ⟨g', o', e1, _, b0, _⟩ := (HX.out.grow MB.out).place hq
        cases e1
        have hsub : (i : Int) - 1 = ((i - 1 : Nat) : Int) := by omega
        have p4 : decide (i - 1 < L.length) = true := decide_eq_true (by omega)
        have hfm := Lib.hid (form_any q.tag wr)
        clear hq hv
        rcases hcase with ⟨hf, rfl⟩ | ⟨hf, v, hv, rfl⟩
        · rw [hf] at hfm
          have hzz := zero_at (w := wr) ⟨c0, c1, c2, c3, c4⟩
          clear c0 c1 c2 c3 c4
          obtain ⟨c0, c1, c2, c3, c4⟩ := hzz
          have he := HZ.out
          go_wp2_with fail
          refine hfm.out.mono ?_
          rintro e w1 ⟨rfl, rfl⟩
          go_wp2_with fail
          go_roundw
          case rel => exact ⟨i + 1, by omega, by go_num, MB.out⟩
          case measure => simp [intOf]; omega
        · have p5 : (Pv.form q.tag == 56) = false := by simpa using hf
          have HRV := Lib.hid (HR.out wr (HX.out.grow MB.out) v hv)
          generalize v.rawOf (Pv.num O) = e at *
          generalize Pv.form q.tag = z at *
          go_wp2_with fail
          refine hfm.out.mono ?_
          rintro e w1 ⟨rfl, rfl⟩
          go_wp2_with fail
          refine HRV.out.mono ?_
          rintro e w2 ⟨rfl, hb2⟩
          have NB := Lib.hid (MB.out.trans (hb2.mono MB.out.size))
          clear hb2
          go_wp2_with fail
          go_roundw
          case rel => exact ⟨i + 1, by omega, by go_num, NB.out⟩
          case measure => simp [intOf]; omega
    · obtain rfl : i = L.length := by omega
      have p1 : decide ((L.length : Int) < (L.length : Int)) = false := decide_eq_false (by omega)
      have p2 : decide (L.length < L.length) = false := decide_eq_false (by omega)
      have hsub : (L.length : Int) - 1 = ((L.length - 1 : Nat) : Int) := by omega
      have p4 : decide (L.length - 1 < L.length) = true := decide_eq_true (by omega)
      obtain ⟨b0, _⟩ := HLP.out.keep MB.out hg
      have hfm := Lib.hid (form_any lq.tag wr)
      have p5 : (Pv.form lq.tag != 56) = true := by simpa using hl2
      generalize Pv.form lq.tag = z at *
      go_wp2_with fail
      refine hfm.out.mono ?_
      rintro e w1 ⟨rfl, rfl⟩
      go_wp2_with fail
      go_ret
      exact ⟨rfl, MB.out⟩
end Go.Proofs.Ytimheacdaafodaa
