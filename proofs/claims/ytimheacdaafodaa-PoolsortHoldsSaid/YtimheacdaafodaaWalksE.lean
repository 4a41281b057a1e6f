/- The walks of layer 16's document: the form of a tag; which constants may be named; which are right. -/
import Derived.Test.YtimheacdaafodaaHolds
import Derived.Test.YtimheacdaafodaaRaws
namespace Go.Proofs.Ytimheacdaafodaa
open Go.RowKit

set_option maxRecDepth 100000 in
theorem none_at (A : Option Addr) (c : Nat) (L : List Rw) (n : Nat) (e : Rw) (w : World) (hx : Raws w A c L) (hL : L.length ≤ 1000000) (h : At L n e) (ht : e.tag ≠ 0) :
    Calls Try.prog 34 #[.slice A L.length c, .int .i64 n] w fun e w' => e = .returned (.bool false) ∧ w' = w := by
  obtain ⟨h1, h2, q, h3, h4⟩ := h
  have hl : n < L.length := (List.getElem?_eq_some_iff.1 h2).1
  obtain ⟨g, o, e', rfl, hg, he, c0, _⟩ := hx.at_ hl
  obtain ⟨g', o', q', e2, _, hq, b0, _⟩ := hx.at_ (i := n - 1) (by omega)
  cases e2
  rw [h2] at he
  cases he
  rw [h3] at hq
  cases hq
  have p1 : decide ((n : Int) < 1) = false := decide_eq_false (by omega)
  have p2 : decide ((L.length : Int) ≤ (n : Int)) = false := decide_eq_false (by omega)
  have p2' : decide (L.length ≤ n) = false := decide_eq_false (by omega)
  have p3 : decide (n < L.length) = true := decide_eq_true hl
  have p4 : (e.tag == 0) = false := by simpa using ht
  have p6 : decide (n - 1 < L.length) = true := decide_eq_true (by omega)
  have hsub : (n : Int) - 1 = ((n - 1 : Nat) : Int) := by omega
  clear h2 h3
  by_cases hn : n = 1
  · subst hn
    rw [Nat.one_mul] at c0
    clear p1 p2 p2' p3 p6 hsub b0
    have p2 : decide ((L.length : Int) ≤ 1) = false := decide_eq_false (by omega)
    have p3 : decide (1 < L.length) = true := decide_eq_true hl
    have p4' : (1 : Int) < (L.length : Int) := by omega
    go_enter Try.func34, Try.ntmps34
    go_wp2_with fail
    go_ret
    exact ⟨rfl, rfl⟩
  · have p5 : decide ((1 : Int) < (n : Int)) = true := decide_eq_true (by omega)
    have p5' : decide (1 < n) = true := decide_eq_true (by omega)
    have hfm := form_any q.tag w
    have p7 : (Pv.form q.tag == 56) = false := by simpa using h4
    generalize Pv.form q.tag = z at *
    go_enter Try.func34, Try.ntmps34
    go_wp2_with fail
    refine hfm.mono ?_
    rintro e w1 ⟨rfl, rfl⟩
    go_wp2_with fail
    go_ret
    exact ⟨rfl, rfl⟩
theorem At.lt {L : List Rw} {n : Nat} {e : Rw} (h : At L n e) : n < L.length := (List.getElem?_eq_some_iff.1 h.2.1).1
/-- The cells of a constant that may be named. -/
theorem At.cells {w : World} {A : Option Addr} {c : Nat} {L : List Rw} {n : Nat} {e : Rw} (hx : Raws w A c L) (h : At L n e) : ∃ g o, A = some ⟨g, o, none⟩ ∧ g < w.heap.size ∧ RAt w g (o + n * 5) e := by
  obtain ⟨g, o, e', rfl, hg, he, hc⟩ := hx.at_ h.lt
  rw [h.2.1] at he
  cases he
  exact ⟨g, o, rfl, hg, hc⟩
set_option maxRecDepth 100000 in
theorem tagged_at (A : Option Addr) (c : Nat) (L : List Rw) (n : Nat) (e : Rw) (t : Int) (w : World) (hx : Raws w A c L) (hL : L.length ≤ 1000000) (h : At L n e) (he : e.tag = t) (ht : t ≠ 0) :
    Calls Try.prog 49 #[.slice A L.length c, .int .i64 n, .int .i64 t] w fun e w' => e = .returned (.bool true) ∧ w' = w := by
  have hn := none_at A c L n e w hx hL h (he ▸ ht)
  obtain ⟨g, o, rfl, hg, c0, _⟩ := h.cells hx
  have hl := h.lt
  have p1 : decide (n < L.length) = true := decide_eq_true hl
  have p2 : (e.tag == t) = true := by simpa using he
  clear h he
  go_enter Try.func49, Try.ntmps49
  go_wp2_with fail
  refine hn.mono ?_
  rintro e w1 ⟨rfl, rfl⟩
  go_wp2_with fail
  go_ret
  exact ⟨rfl, rfl⟩
end Go.Proofs.Ytimheacdaafodaa
