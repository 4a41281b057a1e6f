/- The walk of layer 11's Parse. -/
import Derived.Test.YtbcanoknddpmeaaDoorWalksI
import Derived.Test.YtbcanoknddpmeaaDoorOrder
namespace Go.Proofs.YtbcanoknddpmeaaDoor
open Go.RowKit

theorem Mo.print_eq (d c : Int) : Mo.two ((1980 + d / 512) / 100) ++ Mo.two ((1980 + d / 512) % 100) ++ Mo.shown (Mo.fives (d / 32 % 16) (d % 32) (c / 2048) (c / 32 % 64) (c % 32 * 2)) = Mo.print d c := by
  simp [Mo.shown, Mo.fives, Mo.print]
theorem print_any (d c : Int) (w : World) (hd : 0 ≤ d ∧ d ≤ 65535) (hc : 0 ≤ c ∧ c ≤ 65535) (ht : TabP w) :
    Calls Tryd.prog 14 #[.agg #[.int .u16 d, .int .u16 c]] w fun e w' => e = .returned (.tuple #[.string (bs (if Mo.may d c then Mo.print d c else [])), .int .i64 (if Mo.may d c then 0 else 5)]) ∧ Below w.heap.size w w' := by
  by_cases hm : Mo.may d c = true
  · rw [hm]
    have bd := Mo.ok_bounds hm
    have := print_core d c (1980 + d / 512) (d / 32 % 16) (d % 32) (c / 2048) (c / 32 % 64) (c % 32 * 2) w (fun w => by have := mright_any d c w hd hc; rwa [hm] at this) (fun w => split_any d c w hd hc) ⟨bd.1, bd.2.1⟩ (fun k hk => by
      have : k = 0 ∨ k = 1 ∨ k = 2 ∨ k = 3 ∨ k = 4 := by omega
      rcases this with rfl | rfl | rfl | rfl | rfl <;> simp [Mo.fives] <;> omega) ht
    rw [Mo.print_eq] at this
    exact this
  · have hm' : Mo.may d c = false := by simpa using hm
    rw [hm']
    exact print_no d c w hd hc hm'

/-- What a text tells as a moment: date, clock, an error's number. -/
def Mo.six (l : List UInt8) : Int × Int × Int :=
  Mo.join (Mo.num (l.take 4)) (Mo.num ((l.drop 5).take 2)) (Mo.num ((l.drop 8).take 2)) (Mo.num ((l.drop 11).take 2)) (Mo.num ((l.drop 14).take 2)) (Mo.num (l.drop 17))
def Mo.parse (l : List UInt8) : Int × Int × Int :=
  if l.length = 19 ∧ (Mo.six l).2.2 = 0 ∧ (if Mo.may (Mo.six l).1 (Mo.six l).2.1 then Mo.print (Mo.six l).1 (Mo.six l).2.1 else []) = l then ((Mo.six l).1, (Mo.six l).2.1, 0) else (0, 0, 2)

set_option maxHeartbeats 1000000 in
theorem parse_short (l : List UInt8) (w : World) (hl : l.length ≤ 1000) (hn : ¬ l.length = 19) :
    Calls Tryd.prog 11 #[.string (bs l)] w (JoinPost w (Mo.parse l)) := by
  have hp : Mo.parse l = (0, 0, 2) := if_neg fun h => hn h.1
  rw [hp]
  have hsz := bs_size l
  have hne : ((l.length : Int) != 19) = true := by simp; omega
  clear hp hn
  go_enter Tryd.func11, Tryd.ntmps11
  go_wp2
  refine bodyPost_ret (v := .tuple #[.agg #[.int .u16 0, .int .u16 0], .int .i64 2]) (by simp [results, Tryd.results11, go_sem]) rfl ⟨rfl, ?_⟩
  repeat' (first | with_reducible exact Below.refl _ _ | with_reducible assumption | with_reducible apply below_drewN | with_reducible apply Below.drew | with_reducible apply Below.setCell | with_reducible apply Below.alloc)
  all_goals first | done | (simp; done) | (simp; omega) | omega

theorem bs_ext (l : List UInt8) (a b : Nat) : ((bs l).extract a b).data.toList = (l.drop a).take (b - a) := by rw [bs_extract]; rfl

theorem number_ex (l : List UInt8) (a b : Nat) (w : World) (h : b - a ≤ 4) : Calls Tryd.prog 22 #[.string ((bs l).extract a b)] w fun e w' => e = .returned (.int .i64 (Mo.num ((l.drop a).take (b - a)))) ∧ Below w.heap.size w w' := by
  have := number_any ((bs l).extract a b) w (by rw [bs_extract, bs_size]; simp; omega)
  rwa [bs_ext] at this
set_option maxHeartbeats 4000000 in
theorem parse_core (l : List UInt8) (D C E : Int) (w : World) (hl : l.length = 19) (ht : TabP w) (hj : ∀ w, Calls Tryd.prog 7 #[.agg #[.int .i64 (Mo.num (l.take 4)), .int .i64 (Mo.num ((l.drop 5).take 2)), .int .i64 (Mo.num ((l.drop 8).take 2)), .int .i64 (Mo.num ((l.drop 11).take 2)), .int .i64 (Mo.num ((l.drop 14).take 2)), .int .i64 (Mo.num ((l.drop 17).take (l.length - 17)))]] w fun e w' => e = .returned (.tuple #[.agg #[.int .u16 D, .int .u16 C], .int .i64 E]) ∧ Below w.heap.size w w')
    (hd : 0 ≤ D ∧ D ≤ 65535) (hc : 0 ≤ C ∧ C ≤ 65535) :
    Calls Tryd.prog 11 #[.string (bs l)] w (JoinPost w (if E = 0 ∧ (if Mo.may D C then Mo.print D C else []) = l then (D, C, 0) else (0, 0, 2))) := by
  have hsz := bs_size l
  have HJ := Lib.hid hj
  have hne : ((l.length : Int) != 19) = false := by simp; omega
  have hl1 : l.length ≤ 19 := by omega
  have b4 : (4 : Int) ≤ (l.length : Int) := by omega
  have b7 : (7 : Int) ≤ (l.length : Int) := by omega
  have b10 : (10 : Int) ≤ (l.length : Int) := by omega
  have b13 : (13 : Int) ≤ (l.length : Int) := by omega
  have b16 : (16 : Int) ≤ (l.length : Int) := by omega
  have b17 : (17 : Int) ≤ (l.length : Int) := by omega
  have hl2 : 19 ≤ l.length := by omega
  have HG := Lib.hid (show (E = 0 ∧ (if Mo.may D C then Mo.print D C else []) = l → (if E = 0 ∧ (if Mo.may D C then Mo.print D C else []) = l then (D, C, (0 : Int)) else (0, 0, 2)) = (D, C, 0)) ∧ (¬ (E = 0 ∧ (if Mo.may D C then Mo.print D C else []) = l) → (if E = 0 ∧ (if Mo.may D C then Mo.print D C else []) = l then (D, C, (0 : Int)) else (0, 0, 2)) = (0, 0, 2)) from ⟨fun h => if_pos h, fun h => if_neg h⟩)
  generalize (if E = 0 ∧ (if Mo.may D C then Mo.print D C else []) = l then (D, C, (0 : Int)) else (0, 0, 2)) = J at *
  generalize hT : (if Mo.may D C then Mo.print D C else []) = T at *
  have HP := Lib.hid fun w (h : TabP w) => print_any D C w hd hc h
  rw [hT] at HP
  generalize hX : (if Mo.may D C = true then (0 : Int) else 5) = X at *
  have HT := Lib.hid ht
  clear ht hT hX
  have hcase : (E = 0 ∧ T = l) ∨ (E = 0 ∧ T ≠ l) ∨ E ≠ 0 := by
    by_cases h1 : E = 0
    · by_cases h2 : T = l
      · exact .inl ⟨h1, h2⟩
      · exact .inr (.inl ⟨h1, h2⟩)
    · exact .inr (.inr h1)
  clear hj hl
  go_enter Tryd.func11, Tryd.ntmps11
  go_wp2_with fail
  refine wp_region_ord 24 (by kernel_rfl) (by kernel_rfl) (fun _ _ d _ _ h => by cases d <;> exact h) ?_
  simp only [List.take_succ_cons, List.take_zero, List.drop_succ_cons, List.drop_zero]
  repeat (first | (refine wpLex_skip rfl ?_; simp only [Act.put, List.setIfInBounds_toArray, List.set_cons_zero, List.set_cons_succ]) | (refine wpLex_fix rfl ?_; intro F hF R hR hne K hK; go_big_quiet_op; first | (go_big_quiet_on; clear hne hR R hF F) | (apply Exists.intro; refine ⟨fun g => ?_, ?_⟩; (((first | (go_at_call 22; refine GrE.call hR (number_ex _ _ _ _ ?_); omega) | (go_at_call 7; exact GrE.call hR (HJ.out _))))); go_big_quiet_on; clear hne hR R hF F)) | (apply wpLex_blk rfl; (focus (intro x hx; go_simp; exact ⟨rfl, rfl⟩)); intro B hB; simp only [Act.put, blkVal, List.setIfInBounds_toArray, List.set_cons_zero, List.set_cons_succ]))
  refine wpLex_nil ?_
  intro w1 hw1
  obtain ⟨hB0, hfact⟩ := hw1.fact 4 B _ (.inr ⟨rfl, rfl, rfl⟩)
  obtain ⟨hcB, hfB⟩ := blk_facts hfact
  have hb1 := hw1.below
  have hBlt := (Array.getElem?_eq_some_iff.1 hfact).1
  clear hw1 hfact
  obtain ⟨hc1, hf1⟩ := bcell hb1
  have hb1h := Lib.hid hb1
  clear hb1
  have hB0' : w.heap.size + 1 ≤ B := by have : (w.alloc (.cells #[.int .u16 0, .int .u16 0] 25)).drew.heap.size = w.heap.size + 1 := World.size_alloc w _; omega
  clear hB0
  go_wp2_with fail
  have hB2' : Below (w.heap.size + 1) (w.alloc (.cells #[.int .u16 0, .int .u16 0] 25)) ((w1.setCell ⟨B, 0, none⟩ (.int .u16 D)).setCell ⟨B, 1, none⟩ (.int .u16 C)) :=
    ((((Below.refl _ _).drew).trans (hb1h.out.mono (by simp))).setCell (p := ⟨B, 0, none⟩) (by simp; omega) _).setCell (p := ⟨B, 1, none⟩) (by simp; omega) _
  have hB2 : Below w.heap.size w ((w1.setCell ⟨B, 0, none⟩ (.int .u16 D)).setCell ⟨B, 1, none⟩ (.int .u16 C)) :=
    ((Below.after ((Below.refl _ _).alloc (Nat.le_refl _) _).drew hb1h.out (by simp)).setCell (p := ⟨B, 0, none⟩) (by simp; omega) _).setCell (p := ⟨B, 1, none⟩) (by simp; omega) _
  refine (HP.out _ (tab_below HT.out hB2)).mono ?_
  rintro e w3 ⟨rfl, hb3⟩
  have hB3 := Below.after hB2 hb3 hB2.size
  obtain ⟨hc3, hf3⟩ := bcell hb3
  have hz3 := hb3.size
  simp at hz3
  have hB3' := Below.after' hB2' hb3 (by simp)
  obtain ⟨hcR, hfR⟩ := blk_facts ((hB3'.block w.heap.size (by omega)).trans (heap_alloc_new w _))
  clear hb3 hB2 hB2' hB3'
  rcases hcase with ⟨hE, hTl⟩ | ⟨hE, hTl⟩ | hE
  · have hJ := Lib.hid (HG.out.1 ⟨hE, hTl⟩)
    subst hE hTl
    clear HG
    go_wp2
    refine bodyPost_ret (v := .tuple #[.agg #[.int .u16 D, .int .u16 C], .int .i64 0]) (by simp [results, Tryd.results11, go_sem, hcR, hfR]) rfl ⟨by rw [hJ.out], ?_⟩
    repeat' (first | with_reducible exact Below.refl _ _ | with_reducible assumption | with_reducible apply below_drewN | with_reducible apply Below.drew | with_reducible apply Below.setCell | with_reducible apply Below.alloc)
    all_goals first | done | (simp; done) | (simp; omega) | omega
  · have hJ := Lib.hid (HG.out.2 fun h => hTl h.2)
    have hne2 : (!(bs T).toList == (bs l).toList) = true := by rw [bs_beq]; simp [hTl]
    subst hE
    clear HG
    go_wp2
    refine bodyPost_ret (v := .tuple #[.agg #[.int .u16 0, .int .u16 0], .int .i64 2]) (by simp [results, Tryd.results11, go_sem, hcR, hfR]) rfl ⟨by rw [hJ.out], ?_⟩
    repeat' (first | with_reducible exact Below.refl _ _ | with_reducible assumption | with_reducible apply below_drewN | with_reducible apply Below.drew | with_reducible apply Below.setCell | with_reducible apply Below.alloc)
    all_goals first | done | (simp; done) | (simp; omega) | omega
  · have hJ := Lib.hid (HG.out.2 fun h => hE h.1)
    have hne2 : (E != 0) = true := by simpa using hE
    clear HG hE
    go_wp2
    refine bodyPost_ret (v := .tuple #[.agg #[.int .u16 0, .int .u16 0], .int .i64 2]) (by simp [results, Tryd.results11, go_sem, hcR, hfR]) rfl ⟨by rw [hJ.out], ?_⟩
    repeat' (first | with_reducible exact Below.refl _ _ | with_reducible assumption | with_reducible apply below_drewN | with_reducible apply Below.drew | with_reducible apply Below.setCell | with_reducible apply Below.alloc)
    all_goals first | done | (simp; done) | (simp; omega) | omega
end Go.Proofs.YtbcanoknddpmeaaDoor
