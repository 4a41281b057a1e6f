/- The walk of layer 16: the bytes of constants, by the program. -/
import Derived.Test.YtimheacdaafodaaRBytes
import Derived.Test.YtimheacdaafodaaOf
import Derived.Test.YtimheacdaafodaaNumber
namespace Go.Proofs.Ytimheacdaafodaa
open Go.RowKit

theorem big_row {w : World} {base : Nat} {u : Value} {l : List UInt8} (h : BRow w base 5 u l) (hb : l.length ≤ 1000000000) (v n : Nat) (hv : v < 18446744073709551616) (hn : n = 1 ∨ n = 2 ∨ n = 4 ∨ n = 8) (hbase : base ≤ w.heap.size) :
    Calls Try.prog 36 #[u, .int .u64 v, .int .i64 n] w fun e w' => ∃ u', e = .returned u' ∧ BRow w' base 5 u' (l ++ bigB n v) ∧ Below w.heap.size w w' := by
  obtain ⟨A, c, rfl, hx⟩ := h.at_
  refine (big_any A c l v n w hx (fun e => by
    subst e
    rcases h.2 with ⟨e, hn0⟩ | ⟨_, _, _, e, _⟩
    · obtain rfl : l = [] := List.eq_nil_of_length_eq_zero hn0
      cases e; rfl
    · cases e) hb hv hn).mono ?_
  rintro e w' ⟨u', rfl, hr, hb'⟩
  exact ⟨u', rfl, ⟨hr.1, hr.2.imp_right fun ⟨g, cap, cur, h1, h2, h3⟩ => ⟨g, cap, cur, h1, Nat.le_trans hbase h2, h3⟩⟩, hb'⟩
/-- The variable of the bytes. -/
def Kept (w : World) (base B : Nat) (l : List UInt8) : Prop := ∃ u, w.heap[B]? = some (.cells #[u] 46 (0, 0)) ∧ BRow w base 5 u l ∧ base ≤ B
theorem BRow.grownBy {w w1 : World} {base : Nat} {v : Value} {l : List UInt8} {row : Option Nat} (h : BRow w base 5 v l) (g : w.grownBy w1 row) (hne : ∀ k, v.ownBlock = some k → row ≠ some k) : BRow w1 base 5 v l :=
  World.ownsRow.kept h g (by
    cases e : v.ownBlock with
    | none => exact .inl rfl
    | some k => exact .inr (fun e2 => hne k e e2.symm))
theorem Kept.grow {w w1 : World} {base B : Nat} {l : List UInt8} (h : Kept w base B l) (k : Below w.heap.size w w1) : Kept w1 base B l := by
  obtain ⟨u, h1, h2, h3⟩ := h
  exact ⟨u, (k.block B (Array.getElem?_eq_some_iff.1 h1).1).trans h1, h2.grow k, h3⟩
/-- Stored anew. -/
theorem kept_set {w : World} {base B : Nat} {u v : Value} {l : List UInt8} (h : w.heap[B]? = some (.cells #[u] 46 (0, 0))) (hr : BRow w base 5 v l) (hb : base ≤ B) : Kept (w.setCell ⟨B, 0, none⟩ v) base B l :=
  ⟨v, box_set h v rfl, hr.grownBy (grownBy_setBox w B 0 h v) (fun k hk e => by
    cases e
    exact own_ne hr h (by decide) hk.symm), hb⟩
set_option maxRecDepth 100000 in
theorem two_any (base B v : Nat) (l : List UInt8) (w : World) (h : Kept w base B l) (hl : l.length ≤ 1000000000) (hv : v < 9223372036854775808) :
    Calls Try.prog 37 #[.int .i64 v, .pointer (some ⟨B, 0, none⟩)] w fun e w' => e = .returned (.tuple #[]) ∧ Kept w' base B (l ++ bigB 2 v) ∧ Below base w w' ∧ w.grownBy w' (some B) := by
  obtain ⟨u, h1, h2, h3⟩ := h
  obtain ⟨A, c, rfl, _⟩ := h2.at_
  have hz := (Array.getElem?_eq_some_iff.1 h1).1
  have c0 : w.cell? ⟨B, 0, none⟩ = some (.slice A l.length c) := (blk_facts h1).1 0
  have HBG := Lib.hid (big_row h2 hl v 2 (by omega) (by simp) (by omega))
  have H1 := Lib.hid h1
  clear h1 h2
  go_enter Try.func37, Try.ntmps37
  go_wp2_with fail
  refine HBG.out.mono ?_
  rintro e w1 ⟨u1, rfl, hr1, hb1⟩
  obtain ⟨A1, d1, rfl, _⟩ := hr1.at_
  have h4 := (hb1.block B hz).trans H1.out
  have c1 : w1.cell? ⟨B, 0, none⟩ = some (.slice A l.length c) := (blk_facts h4).1 0
  have f1 := (blk_facts h4).2 0
  have hz1 := (Array.getElem?_eq_some_iff.1 h4).1
  have K := Lib.hid (kept_set h4 hr1 h3)
  have KB := Lib.hid (show Below base w (w1.setCell ⟨B, 0, none⟩ (.slice A1 (l ++ bigB 2 v).length d1)) from (hb1.mono (by omega)).setCell (p := ⟨B, 0, none⟩) h3 _)
  have KG := Lib.hid (show w.grownBy (w1.setCell ⟨B, 0, none⟩ (.slice A1 (l ++ bigB 2 v).length d1)) (some B) from grownBy_trans (grownBy_below hb1 (some B)) (grownBy_setBox w1 B 0 h4 _) (.inl rfl))
  simp only [List.length_append] at K KB KG ⊢
  clear hr1 hb1 h4 HBG c0
  go_wp2_with fail
  go_end0
  exact ⟨rfl, K.out, KB.out, KG.out⟩
end Go.Proofs.Ytimheacdaafodaa
