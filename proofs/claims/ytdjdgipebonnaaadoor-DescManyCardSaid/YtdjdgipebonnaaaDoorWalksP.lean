/- Layer 17: the law DescMethods. -/
import Derived.Test.YtdjdgipebonnaaaDoorWalksN
namespace Go.Proofs.YtdjdgipebonnaaaDoor
open Go.RowKit

/-- The first parts behind an opening bracket. -/
def De.made (ps : List (List UInt8)) (i : Nat) : List UInt8 := [40] ++ (ps.take i).flatten
theorem De.made_succ {ps : List (List UInt8)} {i : Nat} {p : List UInt8} (h : ps[i]? = some p) : De.made ps i ++ p = De.made ps (i + 1) := by
  obtain ⟨h2, rfl⟩ := List.getElem?_eq_some_iff.1 h
  unfold De.made
  rw [List.take_succ_eq_append_getElem h2, List.flatten_append, List.append_assoc]
  simp
theorem De.made_len (ps : List (List UInt8)) (i : Nat) : (De.made ps i).length ≤ 1 + ps.flatten.length := by
  have h : ps.flatten = (ps.take i).flatten ++ (ps.drop i).flatten := by rw [← List.flatten_append, List.take_append_drop]
  unfold De.made
  rw [h]
  simp
  omega
theorem De.made_zero (ps : List (List UInt8)) : De.made ps 0 = [40] := rfl
theorem De.made_all (ps : List (List UInt8)) {i : Nat} (h : ps.length ≤ i) : De.made ps i = [40] ++ ps.flatten := by
  unfold De.made
  rw [List.take_of_length_le h]
theorem De.flat_le (l : List UInt8) : (De.parList l).flatten.length ≤ l.length ∧ (De.parAns l).length ≤ l.length := by
  unfold De.parList De.parAns
  cases h : De.params l with
  | none => simp
  | some x =>
    have e := (De.params_made h).1
    have hl : l.length = x.1.flatten.length + x.2.length + 2 := by rw [e]; simp; omega
    exact ⟨by show x.1.flatten.length ≤ _; omega, by show x.2.length ≤ _; omega⟩
/-- A row of texts, in one of two ways: none, or a block. -/
theorem srow_form {w : World} {base : Nat} {v : Value} {xs : List (List UInt8)} (h : SRow w base 9 v xs) : ∃ A c, v = .slice A xs.length c ∧ xs.length ≤ c ∧ (0 < xs.length → ∃ g, A = some ⟨g, 0, none⟩ ∧ g < w.heap.size ∧ ∀ (j : Nat) x, xs[j]? = some x → w.cell? ⟨g, j, none⟩ = some (.string (bs x))) := by
  rcases h.cases with ⟨rfl, rfl⟩ | ⟨g, cap, rfl, _, h1, h2, h3⟩
  · exact ⟨none, 0, rfl, Nat.zero_le _, fun h => by simp at h⟩
  · exact ⟨_, cap, rfl, h2, fun _ => ⟨g, rfl, h1, h3⟩⟩
theorem bs_add (x y : List UInt8) : (bs x) ++ (bs y) = bs (x ++ y) := bs_append x y

set_option maxHeartbeats 8000000 in
set_option maxRecDepth 100000 in
theorem methods_any (l : List UInt8) (w : World) (hm : MaxP w) :
    Calls Tryd.prog 4 #[.string (bs l)] w fun e w' => e = .returned (.bool true) ∧ Below w.heap.size w w' := by
  have HM := Lib.hid hm
  have hz := bs_size l
  have HF := Lib.hid (fixed_any w hm)
  clear hm
  by_cases h2 : l.length ≤ 200
  rotate_left
  · have d1 : decide ((200 : Int) < l.length) = true := decide_eq_true (by omega)
    go_enter Tryd.func4, Tryd.ntmps4
    go_wp2_with fail
    refine HF.out.mono ?_
    rintro e w1 ⟨rfl, hb⟩
    go_wp2
    go_ret
    exact ⟨rfl, hb⟩
  have hl : l.length ≤ 1000000000 := by omega
  have d1 : decide ((200 : Int) < l.length) = false := decide_eq_false (by omega)
  obtain ⟨s1, s2⟩ := De.parList_le l
  have hmade : Hid ((De.params l).isSome = true → l = [40] ++ (De.parList l).flatten ++ [41] ++ De.parAns l) := Lib.hid fun h => by
    unfold De.parList De.parAns
    cases hp : De.params l with
    | none => rw [hp] at h; cases h
    | some x => rw [(De.params_made hp).1]; simp
  obtain ⟨f1, f2⟩ := De.flat_le l
  clear s1
  go_enter Tryd.func4, Tryd.ntmps4
  go_wp2_with fail
  refine HF.out.mono ?_
  rintro e w1 ⟨rfl, hb⟩
  have J1 := Lib.hid hb
  clear hb HF
  go_wp2_with fail
  refine (params_any l _ hl (max_below HM.out J1.out)).mono ?_
  rintro e w2 ⟨va, rfl, hrow, hb⟩
  have J2 := Lib.hid (Below.after' J1.out hb (Nat.le_refl _))
  have R2 := Lib.hid hrow
  clear hrow hb
  go_wp2_with fail
  refine (rparams_any l _ hl).mono ?_
  rintro e w3 ⟨vb, rfl, hrow, hb⟩
  have J3 := Lib.hid (Below.after' J2.out hb (Nat.le_refl _))
  have R3 := Lib.hid hrow
  have R2' := Lib.hid (R2.out.grow hb)
  clear hrow hb R2
  go_wp2_with fail
  refine (rooms_any l _ hl (max_below HM.out J3.out)).mono ?_
  rintro e w4 ⟨rfl, hb⟩
  have J4 := Lib.hid (Below.after' J3.out hb (Nat.le_refl _))
  have R34 := Lib.hid (R3.out.grow hb)
  have R24 := Lib.hid (R2'.out.grow hb)
  clear hb R3 R2'
  go_wp2_with fail
  refine (rrooms_any l _ hl).mono ?_
  rintro e w5 ⟨rfl, hb⟩
  have J5 := Lib.hid (Below.after' J4.out hb (Nat.le_refl _))
  obtain ⟨A, ca, rfl, hca, ha⟩ := srow_form (R24.out.grow hb)
  obtain ⟨B, cb', rfl, hcb, hb2⟩ := srow_form (R34.out.grow hb)
  have HA := Lib.hid ha
  have HBB := Lib.hid hb2
  clear hb R34 R24 ha hb2
  generalize De.parList l = ps at *
  generalize De.parAns l = an at *
  generalize (De.rooms l).getD 0 = rn at *
  generalize (De.rooms l).isSome = rk at *
  generalize (De.params l).isSome = ok at *
  have qe : ((bs an).toList == (bs an).toList) = true := by simp
  go_wp2_with fail
  go_loopw [13, 69] (fun s u wr => ∃ i : Nat, i ≤ ps.length ∧ u = .int .i64 i ∧ s = .string (bs (De.made ps i)) ∧ Below w5.heap.size w5 wr) (fun _ u _ => ps.length - (intOf u).toNat)
  case atStart => exact ⟨0, Nat.zero_le _, rfl, by rw [De.made_zero]; rfl, Below.refl _ _⟩
  case round =>
    obtain ⟨i, hil, rfl, rfl, hB⟩ := hrel
    have HB := Lib.hid hB
    have hml := De.made_len ps i
    have hmz := bs_size (De.made ps i)
    by_cases h1 : i < ps.length
    · obtain ⟨p, hp⟩ : ∃ p, ps[i]? = some p := ⟨_, List.getElem?_eq_getElem h1⟩
      obtain ⟨ga, rfl, hga, hcella⟩ := HA.out (by omega)
      obtain ⟨gb, rfl, hgb, hcellb⟩ := HBB.out (by omega)
      have ca1 : wr.cell? ⟨ga, i, none⟩ = some (.string (bs p)) := by rw [World.cell?_of_block (hB.block ga hga)]; exact hcella i _ hp
      have cb1 : wr.cell? ⟨gb, i, none⟩ = some (.string (bs p)) := by rw [World.cell?_of_block (hB.block gb hgb)]; exact hcellb i _ hp
      have hga2 : ga < wr.heap.size := Nat.lt_of_lt_of_le hga hB.size
      have hgb2 : gb < wr.heap.size := Nat.lt_of_lt_of_le hgb hB.size
      have hS := Lib.hid (De.made_succ hp)
      have hpl := flat_le (List.mem_of_getElem? hp)
      have hpz := bs_size p
      have qp : ((bs p).toList == (bs p).toList) = true := by simp
      clear hB hp hcella hcellb
      go_wp2_with fail
      refine wp_region_grow (by kernel_rfl) (by kernel_rfl) ?_
      repeat (go_big_quiet_step (fail))
      refine wpQuiet_nil ?_
      intro g1
      obtain ⟨w1, hb1⟩ := g1
      have HB2 := Lib.hid (Below.after' HB.out hb1 (Nat.le_refl _))
      have ca2 := (hb1.cell (p := ⟨ga, i, none⟩) hga2).trans ca1
      dsimp only
      clear hb1 ca1 cb1
      go_wp2_with fail
      go_roundw
      case rel => exact ⟨i + 1, by omega, by go_num, by rw [bs_append, hS.out], HB2.out⟩
      case measure => simp [intOf]; omega
    · have hall := Lib.hid (De.made_all ps (i := i) (by omega))
      have HJ := Lib.hid (Below.after' J5.out hB (Nat.le_refl _))
      clear hB
      cases ok
      · go_wp2
        go_ret
        exact ⟨rfl, HJ.out⟩
      · have hs1 : bs (De.made ps i) ++ ⟨#[41]⟩ = bs (De.made ps i ++ [41]) := bs_append _ _
        have hs2 : bs (De.made ps i ++ [41]) ++ bs an = bs l := by rw [bs_append, hall.out, ← hmade.out rfl]
        have hz1 := bs_size (De.made ps i ++ [41])
        have hz2 : (De.made ps i ++ [41]).length = (De.made ps i).length + 1 := by simp
        have hz3 := bs_size an
        generalize De.made ps i ++ [41] = X at *
        have ql : ((bs l).toList == (bs l).toList) = true := by simp
        go_wp2
        go_ret
        exact ⟨rfl, HJ.out⟩
end Go.Proofs.YtdjdgipebonnaaaDoor
