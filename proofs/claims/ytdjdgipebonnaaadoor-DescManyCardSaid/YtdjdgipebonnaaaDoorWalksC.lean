/- The walks of layer 17: classes' names. -/
import Derived.Test.YtdjdgipebonnaaaDoorWalksB
import Derived.Test.YtdjdgipebonnaaaDoorStrs
namespace Go.Proofs.YtdjdgipebonnaaaDoor
open Go.RowKit

/-- The library's variable holds some number. -/
def MaxP (w : World) : Prop := ∃ m, w.cell? ⟨0, 0, none⟩ = some (.int .i64 m)
theorem maxP_of {w : World} (h : w.ShapedOpen Tryd.prog) : MaxP w := Tryd.laysM146.s1_3 w h
theorem max_below {w w' : World} (h : MaxP w) (k : Below w.heap.size w w') : MaxP w' := by
  obtain ⟨m, hm⟩ := h
  have hlt : (0 : Nat) < w.heap.size := by
    rcases Nat.lt_or_ge 0 w.heap.size with h | h
    · exact h
    · exfalso
      simp only [World.cell?] at hm
      rw [Array.getElem?_eq_none h] at hm
      cases hm
  exact ⟨m, (k.cell (p := ⟨0, 0, none⟩) hlt).trans hm⟩
def De.bad (p : List UInt8) : Bool := p.isEmpty || De.has [46, 59, 91] p

set_option maxHeartbeats 1000000 in
theorem bad_any (l : List UInt8) (w : World) (hl : l.length ≤ 1000000000) :
    Calls Tryd.prog 31 #[.string (bs l)] w fun e w' => e = .returned (.bool (De.bad l)) ∧ Below w.heap.size w w' := by
  by_cases h : l = []
  · subst h
    have hz := bs_empty_true
    go_enter Tryd.func31, Tryd.ntmps31
    go_wp2
    go_ret
    exact ⟨rfl, Below.refl _ _⟩
  · have hz := bs_empty_false h
    have H1 := Lib.hid (containsAny_any l [46, 59, 91] w hl (by simp) (by simp) (ascii_of (by decide)))
    have hfin := Lib.hid (show De.bad l = (l.any fun b => ([46, 59, 91] : List UInt8).contains b) by unfold De.bad; cases l with | nil => exact absurd rfl h | cons _ _ => rfl)
    clear h
    go_enter Tryd.func31, Tryd.ntmps31
    go_wp2_with fail
    refine H1.out.mono ?_
    rintro e w1 ⟨rfl, hb⟩
    have J1 := Lib.hid hb
    clear hb
    generalize hX : (l.any fun b => ([46, 59, 91] : List UInt8).contains b) = X at *
    have HX := Lib.hid hX
    clear hX
    go_wp2
    go_ret
    exact ⟨ret_bool (by rw [hfin.out]), J1.out⟩

set_option maxHeartbeats 4000000 in
set_option maxRecDepth 100000 in
theorem indexFunc_bad (bk c : Nat) (ps : List (List UInt8)) (w : World) (hcells : ∀ (j : Nat) x, ps[j]? = some x → w.cell? ⟨bk, j, none⟩ = some (.string (bs x))) (hbk : bk < w.heap.size) (_hcap : ps.length ≤ c) (hps : ∀ p ∈ ps, p.length ≤ 1000000000) (hn : ps.length ≤ 2000000000) :
    Calls Tryd.prog 41 #[.slice (some ⟨bk, 0, none⟩) ps.length c, .func (.func 31) #[] #[]] w fun e w' => (∃ x : Int, e = .returned (.int .i64 x) ∧ decide (0 ≤ x) = ps.any De.bad) ∧ Below w.heap.size w w' := by
  have HC := Lib.hid hcells
  have HP := Lib.hid hps
  clear hcells hps
  go_enter Tryd.func41, Tryd.ntmps41
  go_wp2_with fail
  go_loopw [8] (fun u wr => ∃ i : Nat, i ≤ ps.length ∧ u = .int .i64 i ∧ Below w.heap.size w wr ∧ (ps.take i).any De.bad = false) (fun u _ => ps.length - (intOf u).toNat)
  case atStart => exact ⟨0, Nat.zero_le _, rfl, Below.refl _ _, rfl⟩
  case round =>
    obtain ⟨i, hil, rfl, hB, hno⟩ := hrel
    have HB := Lib.hid hB
    have HN := Lib.hid hno
    have hbk2 : bk < wr.heap.size := Nat.lt_of_lt_of_le hbk hB.size
    by_cases h1 : i < ps.length
    · obtain ⟨p, hp⟩ : ∃ p, ps[i]? = some p := ⟨_, List.getElem?_eq_getElem h1⟩
      have hcell : wr.cell? ⟨bk, i, none⟩ = some (.string (bs p)) := by rw [World.cell?_of_block (hB.block bk hbk)]; exact HC.out i _ hp
      have HF := Lib.hid (bad_any p wr (HP.out p (List.mem_of_getElem? hp)))
      have HS := Lib.hid (show ps.take (i + 1) = ps.take i ++ [p] from by obtain ⟨h2, rfl⟩ := List.getElem?_eq_some_iff.1 hp; exact List.take_succ_eq_append_getElem h2)
      have HM := Lib.hid (List.mem_of_getElem? hp)
      clear hB hno hp
      cases hb : De.bad p
      · have HBD := Lib.hid hb
        clear hb
        go_wp2_with fail
        refine HF.out.mono ?_
        rw [HBD.out]
        rintro e w1 ⟨rfl, hb⟩
        have HB2 := Lib.hid (Below.after' HB.out hb (Nat.le_refl _))
        clear hb
        go_wp2
        go_roundw
        case rel => exact ⟨i + 1, by omega, by go_num, HB2.out, by rw [HS.out, List.any_append, HN.out]; simp [HBD.out]⟩
        case measure => simp [intOf]; omega
      · have HBD := Lib.hid hb
        have hfin := Lib.hid (show ps.any De.bad = true from List.any_eq_true.2 ⟨p, HM.out, hb⟩)
        clear hb
        go_wp2_with fail
        refine HF.out.mono ?_
        rw [HBD.out]
        rintro e w1 ⟨rfl, hb⟩
        have HB2 := Lib.hid (Below.after' HB.out hb (Nat.le_refl _))
        clear hb
        go_wp2
        go_ret
        exact ⟨⟨_, rfl, by rw [hfin.out]; simp⟩, HB2.out⟩
    · have hfin := Lib.hid (show ps.any De.bad = false by rw [List.take_of_length_le (by omega)] at hno; exact hno)
      clear hno hB
      go_wp2
      go_ret
      exact ⟨⟨-1, rfl, by rw [hfin.out]; rfl⟩, HB.out⟩

theorem containsFunc_bad (bk c : Nat) (ps : List (List UInt8)) (w : World) (hcells : ∀ (j : Nat) x, ps[j]? = some x → w.cell? ⟨bk, j, none⟩ = some (.string (bs x))) (hbk : bk < w.heap.size) (hcap : ps.length ≤ c) (hps : ∀ p ∈ ps, p.length ≤ 1000000000) (hn : ps.length ≤ 2000000000) :
    Calls Tryd.prog 29 #[.slice (some ⟨bk, 0, none⟩) ps.length c, .func (.func 31) #[] #[]] w fun e w' => e = .returned (.bool (ps.any De.bad)) ∧ Below w.heap.size w w' := by
  have H := Lib.hid (indexFunc_bad bk c ps w hcells hbk hcap hps hn)
  clear hcells hps
  go_enter Tryd.func29, Tryd.ntmps29
  go_wp2_with fail
  refine H.out.mono ?_
  rintro e w1 ⟨⟨x, rfl, hx⟩, hb⟩
  have HX := Lib.hid hx
  clear hx
  go_wp2
  go_ret
  exact ⟨ret_bool HX.out, hb⟩
end Go.Proofs.YtdjdgipebonnaaaDoor
