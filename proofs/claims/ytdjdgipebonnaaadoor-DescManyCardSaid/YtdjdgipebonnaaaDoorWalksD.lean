/- The walks of layer 17: classes' names. -/
import Derived.Test.YtdjdgipebonnaaaDoorWalksC
namespace Go.Proofs.YtdjdgipebonnaaaDoor
open Go.RowKit

theorem segs_lens (c : UInt8) : ∀ l : List UInt8, (∀ p ∈ De.segs c l, p.length ≤ l.length) ∧ (De.segs c l).length ≤ l.length + 1
  | [] => by simp [De.segs]
  | b :: l => by
    obtain ⟨h1, h2⟩ := segs_lens c l
    unfold De.segs
    split
    · refine ⟨fun p hp => ?_, by simp; omega⟩
      simp only [List.mem_cons] at hp
      rcases hp with rfl | hp
      · simp
      · have := h1 p hp; simp; omega
    · split
      · simp
      · rename_i p ps hs
        rw [hs] at h1 h2
        refine ⟨fun q hq => ?_, by simp at h2 ⊢; omega⟩
        simp only [List.mem_cons] at hq
        rcases hq with rfl | hq
        · have := h1 p (by simp); simp; omega
        · have := h1 q (by simp [hq]); simp; omega
theorem split_any (l : List UInt8) (w : World) (hl : l.length ≤ 1000000000) (hm : MaxP w) :
    Calls Tryd.prog 30 #[.string (bs l), .string ⟨#[47]⟩] w fun e w' => e = .returned (.slice (some ⟨w.heap.size, 0, none⟩) (De.segs 47 l).length (De.segs 47 l).length) ∧ Below w.heap.size w w' ∧ w.heap.size < w'.heap.size ∧
      ∀ (j : Nat) x, (De.segs 47 l)[j]? = some x → w'.cell? ⟨w.heap.size, j, none⟩ = some (.string (bs x)) := by
  obtain ⟨m, hm⟩ := hm
  have hz := bs_size l
  have hk : Lib.countB (bs l) ⟨#[47]⟩ = l.count 47 := by
    show Lib.count (bs l).data.toList [47] = _
    rw [bs_toList, Lib.count_one]
  have hd := Lib.splitB_data ⟨#[47]⟩ 0 (l.count 47) (bs l)
  rw [bs_toList] at hd
  have hseg : (Lib.splitB ⟨#[47]⟩ 0 (l.count 47) (bs l)).map (·.data.toList) = De.segs 47 l := by rw [hd]; exact De.splitK_segs 47 l
  have hlen : (De.segs 47 l).length = l.count 47 + 1 := by
    rw [← hseg, List.length_map, Lib.splitB_all ⟨#[47]⟩ (by decide) 0 (l.count 47) (bs l) hk]
  refine (Tryd.strings_Split (bs l) ⟨#[47]⟩ m w (by omega) hm (by decide)).mono fun e w' ⟨he, hw⟩ => ?_
  rw [hk] at he hw
  subst hw
  refine ⟨by rw [he, hlen], (Below.refl _ _).alloc (Nat.le_refl _) _, by simp, fun j x hx => ?_⟩
  rw [← hseg, List.getElem?_map] at hx
  obtain ⟨y, hy, rfl⟩ := Option.map_eq_some_iff.1 hx
  rw [cell_of_row _ _ j _ _ _ (heap_alloc_new w _)]
  rw [List.getElem?_toArray, List.getElem?_map, hy]
  rfl

set_option maxHeartbeats 1000000 in
theorem class_any (l : List UInt8) (w : World) (hl : l.length ≤ 1000000000) (hm : MaxP w) :
    Calls Tryd.prog 11 #[.string (bs l)] w fun e w' => e = .returned (.bool (De.cls l)) ∧ Below w.heap.size w w' := by
  have H1 := Lib.hid (split_any l w hl hm)
  have hcls := Lib.hid (De.cls_eq l)
  obtain ⟨s1, s2⟩ := segs_lens 47 l
  have S1 := Lib.hid s1
  have H3 := Lib.hid fun w' => right_any l w' hl
  clear s1 hm
  go_enter Tryd.func11, Tryd.ntmps11
  go_wp2_with fail
  refine H1.out.mono ?_
  rintro e w1 ⟨rfl, hb, hz, hcells⟩
  have J1 := Lib.hid hb
  have HC := Lib.hid hcells
  clear hb hcells
  go_wp2_with fail
  refine (containsFunc_bad w.heap.size _ (De.segs 47 l) w1 HC.out hz (Nat.le_refl _) (fun p hp => by have := S1.out p hp; omega) (by omega)).mono ?_
  have hany : ((De.segs 47 l).any fun p => p.isEmpty || De.has [46, 59, 91] p) = (De.segs 47 l).any De.bad := rfl
  rw [hany] at hcls
  clear hany HC
  cases hx : (De.segs 47 l).any De.bad
  · rw [hx] at hcls
    clear hx
    rintro e w2 ⟨rfl, hb⟩
    have J2 := Lib.hid (Below.after' J1.out hb (Nat.le_refl _))
    clear hb
    go_wp2_with fail
    refine (H3.out _).mono ?_
    rintro e w3 ⟨rfl, hb⟩
    have J3 := Lib.hid (Below.after' J2.out hb (Nat.le_refl _))
    clear hb
    go_wp2
    go_ret
    exact ⟨ret_bool (by rw [hcls.out]; simp), J3.out⟩
  · rw [hx] at hcls
    clear hx
    rintro e w2 ⟨rfl, hb⟩
    have J2 := Lib.hid (Below.after' J1.out hb (Nat.le_refl _))
    clear hb
    go_wp2
    go_ret
    exact ⟨ret_bool (by rw [hcls.out]; simp), J2.out⟩

/-- Does a part begin at place i? -/
def De.begins (l : List UInt8) (i : Nat) : Bool := decide (i = 0) || decide (l.getD (i - 1) 0 = 47)
theorem De.fine_hit {l : List UInt8} {i : Nat} {c : UInt8} (hc : l[i]? = some c) (b : Bool) : De.fine b (l.drop i) = if c = 47 then !b && De.fine true (l.drop (i + 1)) else De.fine false (l.drop (i + 1)) := by
  obtain ⟨h, rfl⟩ := List.getElem?_eq_some_iff.1 hc
  rw [List.drop_eq_getElem_cons h]
  rfl
theorem De.begins_succ {l : List UInt8} {i : Nat} {c : UInt8} (hc : l[i]? = some c) : De.begins l (i + 1) = decide (c = 47) := by
  unfold De.begins
  rw [Nat.add_sub_cancel, getD_of hc]
  simp
/-- What the reference's loop keeps. -/
def RC (l : List UInt8) (i : Nat) : Prop := (i ≤ l.length → De.fine true l = De.fine (De.begins l i) (l.drop i)) ∧ (i = l.length + 1 → De.fine true l = true)
theorem RC.zero (l : List UInt8) : RC l 0 := ⟨fun _ => rfl, fun h => by omega⟩
theorem RC.succ {l : List UInt8} {i : Nat} (h : RC l i) (hi : i ≤ l.length) (hn : ¬ (De.begins l i = true ∧ (i = l.length ∨ l.getD i 0 = 47))) : RC l (i + 1) := by
  refine ⟨fun h2 => ?_, fun h2 => ?_⟩
  · obtain ⟨c, hc⟩ : ∃ c, l[i]? = some c := ⟨_, List.getElem?_eq_getElem h2⟩
    rw [h.1 hi, De.fine_hit hc, De.begins_succ hc]
    rw [getD_of hc] at hn
    by_cases h47 : c = 47
    · rw [if_pos h47, decide_eq_true h47]
      have : De.begins l i = false := by rw [Bool.eq_false_iff]; exact fun hb => hn ⟨hb, .inr h47⟩
      rw [this]; rfl
    · rw [if_neg h47, decide_eq_false h47]
  · have e : i = l.length := by omega
    have : De.begins l i = false := by rw [Bool.eq_false_iff]; exact fun hb => hn ⟨hb, .inl e⟩
    rw [h.1 hi, this, List.drop_eq_nil_of_le (by omega)]
    rfl
theorem RC.stop {l : List UInt8} {i : Nat} (h : RC l i) (hi : i ≤ l.length) (hb : De.begins l i = true) (he : i = l.length ∨ l.getD i 0 = 47) : De.fine true l = false := by
  rw [h.1 hi, hb]
  by_cases e : i = l.length
  · rw [List.drop_eq_nil_of_le (by omega)]; rfl
  · obtain ⟨c, hc⟩ : ∃ c, l[i]? = some c := ⟨_, List.getElem?_eq_getElem (by omega)⟩
    rw [De.fine_hit hc]
    rw [getD_of hc] at he
    rw [if_pos (he.resolve_left e)]; rfl

set_option maxHeartbeats 8000000 in
set_option maxRecDepth 100000 in
theorem rclass_any (l : List UInt8) (w : World) (hl : l.length ≤ 1000000000) :
    Calls Tryd.prog 12 #[.string (bs l)] w fun e w' => e = .returned (.bool (De.cls l)) ∧ Below w.heap.size w w' := by
  have hz := bs_size l
  have H1 := Lib.hid (rright_any l w hl)
  have H2 := Lib.hid fun w' => without_any l [46, 59, 91] w' hl (by simp)
  cases hr : Ut.right l
  · have hfin := Lib.hid (show De.cls l = false by unfold De.cls; rw [hr]; simp)
    have HR := Lib.hid hr
    clear hr
    go_enter Tryd.func12, Tryd.ntmps12
    go_wp2_with fail
    refine H1.out.mono ?_
    rw [HR.out]
    rintro e w1 ⟨rfl, hb⟩
    go_wp2
    go_ret
    exact ⟨ret_bool hfin.out.symm, hb⟩
  · have HR := Lib.hid hr
    cases hh : De.has [46, 59, 91] l
    · have hcl := Lib.hid (show De.cls l = De.fine true l by unfold De.cls; rw [hr, hh]; simp)
      have HH := Lib.hid hh
      clear hr hh
      go_enter Tryd.func12, Tryd.ntmps12
      go_wp2_with fail
      refine H1.out.mono ?_
      rw [HR.out]
      rintro e w1 ⟨rfl, hb⟩
      have J1 := Lib.hid hb
      clear hb
      go_wp2_with fail
      refine (H2.out _).mono ?_
      rw [HH.out]
      rintro e w2 ⟨rfl, hb⟩
      have J2 := Lib.hid (Below.after' J1.out hb (Nat.le_refl _))
      clear hb
      go_wp2_with fail
      go_loopw [3] (fun u wr => ∃ i : Nat, i ≤ l.length + 1 ∧ u = .int .i64 i ∧ wr = w2 ∧ RC l i) (fun u _ => l.length + 1 - (intOf u).toNat)
      case atStart => exact ⟨0, Nat.zero_le _, rfl, rfl, RC.zero l⟩
      case round =>
        obtain ⟨i, hil, rfl, rfl, hrc⟩ := hrel
        have HRC := Lib.hid hrc
        clear hrc
        by_cases h1 : i ≤ l.length
        · have hbeg : (((i : Int) == 0) = true ∧ Hid (De.begins l i = true)) ∨ (∃ d : UInt8, ((i : Int) == 0) = false ∧ l[i - 1]? = some d ∧ 0 < i ∧ ((d.toNat : Int) == 47) = true ∧ Hid (De.begins l i = true)) ∨ (∃ d : UInt8, ((i : Int) == 0) = false ∧ l[i - 1]? = some d ∧ 0 < i ∧ ((d.toNat : Int) == 47) = false ∧ Hid (De.begins l i = false)) := by
            by_cases h0 : i = 0
            · left; exact ⟨by simp [h0], Lib.hid (by simp [De.begins, h0])⟩
            · obtain ⟨d, hd⟩ : ∃ d, l[i - 1]? = some d := ⟨_, List.getElem?_eq_getElem (by omega)⟩
              by_cases h47 : d = 47
              · right; left; exact ⟨d, by simp; omega, hd, by omega, by rw [h47]; rfl, Lib.hid (by unfold De.begins; rw [getD_of hd, decide_eq_true h47]; simp)⟩
              · right; right; exact ⟨d, by simp; omega, hd, by omega, by rw [beq_eq_false_iff_ne]; intro h; exact h47 (UInt8.toNat_inj.1 (by show d.toNat = 47; omega)), Lib.hid (by unfold De.begins; rw [getD_of hd, decide_eq_false h47, decide_eq_false h0]; rfl)⟩
          have hend : (((i : Int) == l.length) = true ∧ Hid (i = l.length ∨ l.getD i 0 = 47)) ∨ (∃ c : UInt8, ((i : Int) == l.length) = false ∧ l[i]? = some c ∧ ((c.toNat : Int) == 47) = true ∧ Hid (i = l.length ∨ l.getD i 0 = 47)) ∨ (∃ c : UInt8, ((i : Int) == l.length) = false ∧ l[i]? = some c ∧ ((c.toNat : Int) == 47) = false ∧ Hid (¬ (i = l.length ∨ l.getD i 0 = 47))) := by
            by_cases h0 : i = l.length
            · left; exact ⟨by simp [h0], Lib.hid (.inl h0)⟩
            · obtain ⟨c, hc⟩ : ∃ c, l[i]? = some c := ⟨_, List.getElem?_eq_getElem (by omega)⟩
              by_cases h47 : c = 47
              · right; left; exact ⟨c, by rw [beq_eq_false_iff_ne]; omega, hc, by rw [h47]; rfl, Lib.hid (.inr (by rw [getD_of hc]; exact h47))⟩
              · right; right; exact ⟨c, by rw [beq_eq_false_iff_ne]; omega, hc, by rw [beq_eq_false_iff_ne]; intro h; exact h47 (UInt8.toNat_inj.1 (by show c.toNat = 47; omega)), Lib.hid (fun h => by rcases h with h | h; exact h0 h; rw [getD_of hc] at h; exact h47 h)⟩
          have ic := fun (c : UInt8) (hc : l[i]? = some c) x => bs_index l i c hc .i64 i rfl x
          have idd := fun (d : UInt8) (hd : l[i - 1]? = some d) (h : 0 < i) x => bs_index l (i - 1) d hd .i64 ((i : Int) - 1) (by omega) x
          have IC := Lib.hid ic
          have ID := Lib.hid idd
          clear ic idd
          rcases hbeg with ⟨b1, hB⟩ | ⟨d, b1, hd, hi0, b2, hB⟩ | ⟨d, b1, hd, hi0, b2, hB⟩ <;> rcases hend with ⟨e1, hE⟩ | ⟨c, e1, hc, e2, hE⟩ | ⟨c, e1, hc, e2, hE⟩
          all_goals
            try have id2 := ID.out d hd hi0
            try have ic2 := IC.out c hc
            try clear hd
            try clear hc
            clear IC ID
            first
            | (have hfin := Lib.hid (show De.cls l = false by rw [hcl.out]; exact RC.stop HRC.out h1 hB.out hE.out)
               go_wp2
               go_ret
               exact ⟨ret_bool hfin.out.symm, J2.out⟩)
            | (have HRC2 := Lib.hid (RC.succ HRC.out h1 (by first | exact (fun h => hE.out h.2) | exact (fun h => by have := h.1; rw [hB.out] at this; cases this)))
               go_wp2
               go_roundw
               case rel => exact ⟨i + 1, by omega, by go_num, trivial, HRC2.out⟩
               case measure => simp [intOf]; omega)
        · have hfin := Lib.hid (show De.cls l = true by rw [hcl.out]; exact HRC.out.2 (by omega))
          go_wp2
          go_ret
          exact ⟨ret_bool hfin.out.symm, J2.out⟩
    · have hfin := Lib.hid (show De.cls l = false by unfold De.cls; rw [hh]; simp)
      have HH := Lib.hid hh
      clear hr hh
      go_enter Tryd.func12, Tryd.ntmps12
      go_wp2_with fail
      refine H1.out.mono ?_
      rw [HR.out]
      rintro e w1 ⟨rfl, hb⟩
      have J1 := Lib.hid hb
      clear hb
      go_wp2_with fail
      refine (H2.out _).mono ?_
      rw [HH.out]
      rintro e w2 ⟨rfl, hb⟩
      have J2 := Lib.hid (Below.after' J1.out hb (Nat.le_refl _))
      clear hb
      go_wp2
      go_ret
      exact ⟨ret_bool hfin.out.symm, J2.out⟩
end Go.Proofs.YtdjdgipebonnaaaDoor
