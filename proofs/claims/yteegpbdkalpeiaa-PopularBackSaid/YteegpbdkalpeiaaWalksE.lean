/- The walks of layer 25: check. -/
import Derived.Test.YteegpbdkalpeiaaWalksD
import Derived.Test.YteegpbdkalpeiaaShelf
import Derived.Shelf.SlicesE.IndexFunc
namespace Go.Proofs.Yteegpbdkalpeiaa
open Go.RowKit Go.Maps

/-- A number that an int holds. -/
def nx (x : Int) : Int := if -9223372036854775808 ≤ x ∧ x ≤ 9223372036854775807 then x else 0
theorem nx_in (x : Int) : I64 (nx x) := by
  unfold nx I64
  split
  · assumption
  · omega
theorem nx_same {x : Int} (h : I64 x) : nx x = x := if_pos h
theorem any_nx (fs : List Int) : ∀ (rs : List Int), (∀ x ∈ rs, I64 x) → (rs.any fun x => decide (0 < Po.at fs (nx x))) = rs.any fun x => decide (0 < Po.at fs x)
  | [], _ => rfl
  | r :: rs, h => by rw [List.any_cons, List.any_cons, any_nx fs rs (fun x hx => h x (List.mem_cons_of_mem _ hx)), nx_same (h r (List.mem_cons_self ..))]

set_option maxHeartbeats 2000000 in
theorem chk1_at (fs : List Int) (b B : Nat) (w : World) (hP : PMap w b fs) (hB : B < w.heap.size) (hc : w.cell? ⟨B, 0, none⟩ = some (.map (some b))) :
    PredAt Try.prog 29 #[.pointer (some ⟨B, 0, none⟩)] (fun x : Int => .int .i64 (nx x)) (fun x => decide (0 < Po.at fs (nx x))) w := fun W x hb => by
  obtain ⟨D, hO, hM, _⟩ := hP.keep hb
  have hl := look_run hO hM (nx_in x)
  have hcell : W.cell? ⟨B, 0, none⟩ = some (.map (some b)) := (hb.cell (p := ⟨B, 0, none⟩) hB).trans hc
  show Calls Try.prog 29 #[.int .i64 (nx x), .pointer (some ⟨B, 0, none⟩)] W _
  clear hO hM hb hc hP
  go_enter Try.func29, Try.ntmps29
  go_wp2
  go_ret
  exact ⟨rfl, 0, rfl⟩

theorem contains_any (A : Option Addr) (c : Nat) (fs rs : List Int) (b B : Nat) (w : World) (hx : Ints w A c rs) (hI : ∀ x ∈ rs, I64 x) (hn : rs.length ≤ 1000000) (hP : PMap w b fs) (hB : B < w.heap.size) (hc : w.cell? ⟨B, 0, none⟩ = some (.map (some b))) :
    Calls Try.prog 28 #[.slice A rs.length c, .func (.func 29) #[] #[.pointer (some ⟨B, 0, none⟩)]] w fun e w' => e = .returned (.bool (rs.any fun x => decide (0 < Po.at fs x))) ∧ Below w.heap.size w w' := by
  by_cases h0 : rs.length = 0
  · obtain rfl := List.eq_nil_of_length_eq_zero h0
    refine Calls.mono (AnyE.slices_ContainsFunc_empty Try.conA A c (.func (.func 29) #[] #[.pointer (some ⟨B, 0, none⟩)]) w) ?_
    rintro e w' ⟨rfl, rfl⟩
    exact ⟨rfl, Below.refl _ _⟩
  · obtain ⟨g, o, rfl, hg, hcell⟩ := hx.2 (by omega)
    have hget : ∀ j, j < rs.length → rs[j]? = some rs[j]! := fun j hj => by rw [List.getElem!_eq_getElem?_getD, List.getElem?_eq_getElem hj]; rfl
    have eg : ∀ args w, (callFunc 29 args).run Try.prog w = .ok (.enter 29 args) w := enters_of Try.func29 (by kernel_rfl) rfl
    have hcon := AnyE.slices_ContainsFunc Try.conA (fun x : Int => .int .i64 (nx x)) (fun x => decide (0 < Po.at fs (nx x))) 29 #[.pointer (some ⟨B, 0, none⟩)] eg g o rs.length c rs w (chk1_at fs b B w hP hB hc) (Nat.le_refl _) (by omega)
      (fun j hj => by
        have := hcell j _ (hget j hj)
        rw [this, nx_same (hI _ (List.mem_of_getElem? (hget j hj)))])
    refine hcon.mono ?_
    rintro e w' ⟨rfl, q, rfl⟩
    refine ⟨?_, below_drewN' (Below.refl _ _) q⟩
    rw [List.take_length]
    rw [any_nx fs rs hI]

def Po.bad (fs ts : List Int) : Bool := ts.any fun t => decide (t < 0) || decide ((fs.length : Int) < t)
def Po.twice (fs rs : List Int) : Bool := !decide fs.Nodup || rs.any fun x => decide (0 < Po.at fs x)
/-- Why a row is not told, or nought. -/
def Po.err (fs ts rs : List Int) : Int := if Po.bad fs ts then 5 else if Po.twice fs rs then 10 else if rs.length < ts.count 0 then 6 else if ts.count 0 < rs.length then 2 else 0

set_option maxHeartbeats 4000000 in
set_option maxRecDepth 100000 in
theorem check_any (A B C : Option Addr) (c d k : Nat) (fs ts rs : List Int) (w : World) (hx : Ints w A c fs) (hy : Ints w B d ts) (hz : Ints w C k rs) (hI : ∀ x ∈ fs, I64 x) (hJ : ∀ x ∈ rs, I64 x)
    (hn : fs.length ≤ 100000) (hm : ts.length ≤ 100000) (hl : rs.length ≤ 100000) :
    Calls Try.prog 23 #[.slice A fs.length c, .slice B ts.length d, .slice C rs.length k] w fun e w' => e = .returned (.int .i64 (Po.err fs ts rs)) ∧ Below w.heap.size w w' := by
  have HY := Lib.hid hy
  have HZ := Lib.hid hz
  have HJ := Lib.hid hJ
  have HPL := Lib.hid (places_any A c fs w hx hI (by omega))
  clear hx hy hz hI hJ
  go_enter Try.func23, Try.ntmps23
  go_wp2_with fail
  refine HPL.out.mono ?_
  rintro e w0 ⟨rfl, hP, hb0⟩
  go_wp2_with fail
  obtain ⟨wa, hwa⟩ : ∃ wa : World, wa = w0.alloc (.cells #[.map (some w.heap.size)] 35) := ⟨_, rfl⟩
  have hcell : wa.cell? ⟨w0.heap.size, 0, none⟩ = some (.map (some w.heap.size)) := by rw [hwa]; simp
  have hz1 : w0.heap.size < wa.heap.size := by rw [hwa]; simp
  have hb1 : Below w0.heap.size w0 wa := by rw [hwa]; exact (Below.refl _ _).alloc (Nat.le_refl _) _
  have HB := Lib.hid (Below.after' hb0 hb1 (Nat.le_refl _))
  have HP := Lib.hid (hP.keep hb1)
  rw [← hwa]
  have HYa := Lib.hid (HY.out.grow HB.out)
  have HZa := Lib.hid (HZ.out.grow HB.out)
  clear hwa hb0 hb1 hP HPL HY HZ
  go_loop [8, 16] (fun n u => ∃ i : Nat, i ≤ ts.length ∧ u = .int .i64 i ∧ n = .int .i64 ((ts.take i).count 0 : Nat) ∧ Po.bad fs (ts.take i) = false) (fun _ u => ts.length - (intOf u).toNat)
  case atStart => exact ⟨0, Nat.zero_le _, rfl, rfl, rfl⟩
  case round =>
    obtain ⟨i, hil, rfl, rfl, hbad⟩ := hrel
    have HN := Lib.hid hbad
    have hcl : (ts.take i).count 0 ≤ 1000000 := Nat.le_trans List.count_le_length (by rw [List.length_take]; omega)
    by_cases h1 : i < ts.length
    · obtain ⟨g, o, x, rfl, hg, hxi, hct⟩ := HYa.out.at_ h1
      have htk := Lib.hid (take_snocI ts i x hxi)
      have hmem := Lib.hid (List.mem_of_getElem? hxi)
      have hs := Lib.hid (show (ts.take (i + 1)).count 0 = (ts.take i).count 0 + if x = 0 then 1 else 0 by rw [htk.out, count_snoc])
      have hbd := Lib.hid (show Po.bad fs (ts.take (i + 1)) = (decide (x < 0) || decide ((fs.length : Int) < x)) by
        rw [htk.out]; unfold Po.bad; rw [List.any_append]
        have := HN.out; unfold Po.bad at this; rw [this]; simp)
      clear hxi hbad
      by_cases hneg : x < 0
      · have q : decide (x < 0) = true := by simp [hneg]
        have hfin := Lib.hid (show Po.err fs ts rs = 5 from if_pos (List.any_eq_true.2 ⟨x, hmem.out, by simp [hneg]⟩))
        clear hneg
        go_wp2
        go_ret
        exact ⟨by rw [hfin.out]; rfl, HB.out⟩
      · have q : decide (x < 0) = false := by simp [hneg]
        by_cases hbig : (fs.length : Int) < x
        · have q2 : decide ((fs.length : Int) < x) = true := by simp [hbig]
          have hfin := Lib.hid (show Po.err fs ts rs = 5 from if_pos (List.any_eq_true.2 ⟨x, hmem.out, by simp [hbig]⟩))
          clear hneg hbig
          go_wp2
          go_ret
          exact ⟨by rw [hfin.out]; rfl, HB.out⟩
        · have q2 : decide ((fs.length : Int) < x) = false := by simp [hbig]
          have hnb := Lib.hid (hbd.out.trans (by rw [q, q2, Bool.or_false]))
          clear hneg hbig
          by_cases hx0 : x = 0
          · have q3 : (x == 0) = true := by simp [hx0]
            have hs2 := Lib.hid (hs.out.trans (by rw [if_pos hx0]))
            clear hx0
            go_wp2
            go_round
            case rel => exact ⟨i + 1, by omega, by go_num, by rw [hs2.out]; rfl, hnb.out⟩
            case measure => simp [intOf]; omega
          · have q3 : (x == 0) = false := by simp [hx0]
            have hs2 := Lib.hid (hs.out.trans (by rw [if_neg hx0, Nat.add_zero]))
            clear hx0
            go_wp2
            go_round
            case rel => exact ⟨i + 1, by omega, by go_num, by rw [hs2.out], hnb.out⟩
            case measure => simp [intOf]; omega
    · have hfin : ts.take i = ts := List.take_of_length_le (by omega)
      rw [hfin] at hbad hcl
      rw [hfin]
      have HE := Lib.hid (show Po.err fs ts rs = if Po.twice fs rs then 10 else if rs.length < ts.count 0 then 6 else if ts.count 0 < rs.length then 2 else 0 from if_neg (by rw [hbad]; simp))
      have HC := Lib.hid (contains_any C k fs rs w.heap.size w0.heap.size wa HZa.out HJ.out (by omega) HP.out hz1 hcell)
      obtain ⟨D, hO, hM, hD⟩ := HP.out
      have HO := Lib.hid hO
      have HD := Lib.hid hD
      have HNB := Lib.hid (HB.out)
      clear hfin hbad HN HYa hO hM hD
      by_cases hdl : Maps.size D < fs.length
      · have q : decide (Maps.size D < fs.length) = true := by simp [hdl]
        have hfin := Lib.hid (HE.out.trans (if_pos (by unfold Po.twice; rw [decide_eq_false (HD.out.1 hdl)]; rfl)))
        clear hdl
        go_wp2_with (at_len; refine wpList_len_own _ rfl _ _ rfl _ _ Try.underlying35 _ _ _ _ rfl HO.out ?_)
        go_ret
        exact ⟨by rw [hfin.out]; rfl, HB.out⟩
      · have q : decide (Maps.size D < fs.length) = false := by simp [hdl]
        have hnd := Lib.hid (show fs.Nodup from Classical.not_not.1 (fun h => hdl (HD.out.2 h)))
        clear hdl
        cases hany : rs.any (fun x => decide (0 < Po.at fs x)) with
        | true =>
          have hfin := Lib.hid (HE.out.trans (if_pos (by unfold Po.twice; rw [hany, Bool.or_true])))
          rw [hany] at HC
          clear hany
          go_wp2_with (at_len; refine wpList_len_own _ rfl _ _ rfl _ _ Try.underlying35 _ _ _ _ rfl HO.out ?_)
          refine HC.out.mono ?_
          rintro e w1 ⟨rfl, hb1⟩
          have HB1 := Lib.hid (Below.after' HB.out hb1 (by have := HB.out.size; omega))
          clear hb1
          go_wp2
          go_ret
          exact ⟨by rw [hfin.out]; rfl, HB1.out⟩
        | false =>
          have hfin := Lib.hid (HE.out.trans (if_neg (by unfold Po.twice; rw [hany, Bool.or_false, decide_eq_true hnd.out]; simp)))
          rw [hany] at HC
          clear hany
          go_wp2_with (at_len; refine wpList_len_own _ rfl _ _ rfl _ _ Try.underlying35 _ _ _ _ rfl HO.out ?_)
          refine HC.out.mono ?_
          rintro e w1 ⟨rfl, hb1⟩
          have HB1 := Lib.hid (Below.after' HB.out hb1 (by have := HB.out.size; omega))
          clear hb1
          by_cases hlt : rs.length < ts.count 0
          · have q3 : decide (rs.length < ts.count 0) = true := by simp [hlt]
            have hfin2 := Lib.hid (hfin.out.trans (if_pos hlt))
            clear hlt
            go_wp2
            go_ret
            exact ⟨by rw [hfin2.out]; rfl, HB1.out⟩
          · have q3 : decide (rs.length < ts.count 0) = false := by simp [hlt]
            by_cases hgt : ts.count 0 < rs.length
            · have q4 : decide (ts.count 0 < rs.length) = true := by simp [hgt]
              have hfin2 := Lib.hid (hfin.out.trans ((if_neg hlt).trans (if_pos hgt)))
              clear hlt hgt
              go_wp2
              go_ret
              exact ⟨by rw [hfin2.out]; rfl, HB1.out⟩
            · have q4 : decide (ts.count 0 < rs.length) = false := by simp [hgt]
              have hfin2 := Lib.hid (hfin.out.trans ((if_neg hlt).trans (if_neg hgt)))
              clear hlt hgt
              go_wp2
              go_ret
              exact ⟨by rw [hfin2.out]; rfl, HB1.out⟩
end Go.Proofs.Yteegpbdkalpeiaa
