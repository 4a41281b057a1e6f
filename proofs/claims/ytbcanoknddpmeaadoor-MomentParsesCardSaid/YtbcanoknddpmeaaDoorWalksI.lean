/- The walk of layer 11's Print. -/
import Derived.Test.YtbcanoknddpmeaaDoorWalksH
namespace Go.Proofs.YtbcanoknddpmeaaDoor
open Go.RowKit

set_option maxHeartbeats 1000000 in
theorem print_no (d c : Int) (w : World) (hd : 0 ≤ d ∧ d ≤ 65535) (hc : 0 ≤ c ∧ c ≤ 65535) (hno : Mo.may d c = false) :
    Calls Tryd.prog 14 #[.agg #[.int .u16 d, .int .u16 c]] w fun e w' => e = .returned (.tuple #[.string (bs []), .int .i64 5]) ∧ Below w.heap.size w w' := by
  have HR := fun w => mright_any d c w hd hc
  rw [hno] at HR
  have HRh := Lib.hid HR
  clear HR hno
  go_enter Tryd.func14, Tryd.ntmps14
  go_wp2_with (go_at_call 18; refine (HRh.out _).mono ?_; rintro e w1 ⟨rfl, hb⟩; have hB := Below.after ((Below.refl w.heap.size w).alloc (Nat.le_refl _) _) hb (by simp); clear hb)
  go_ret2
  exact ⟨rfl, hB⟩

/-- The five signs and numbers behind the year. -/
def Mo.fives (m da h n s : Int) : List (UInt8 × Int) := [(45, m), (45, da), (32, h), (58, n), (58, s)]
def Mo.shown (l : List (UInt8 × Int)) : List UInt8 := l.flatMap fun p => p.1 :: Mo.two p.2

theorem Mo.fives_get (m da h n s : Int) (k : Nat) (hk : k < 5) : (Mo.fives m da h n s)[k]? = some ((Mo.fives m da h n s).getD k (0, 0)) := by
  rw [List.getD_eq_getElem?_getD, List.getElem?_eq_getElem (by simpa [Mo.fives] using hk)]; rfl
theorem Mo.shown_snoc (l : List (UInt8 × Int)) (k : Nat) (p : UInt8 × Int) (h : l[k]? = some p) : Mo.shown (l.take (k + 1)) = Mo.shown (l.take k) ++ [p.1] ++ Mo.two p.2 := by
  obtain ⟨hk, hp⟩ := List.getElem?_eq_some_iff.1 h
  unfold Mo.shown
  rw [List.take_succ_eq_append_getElem hk, List.flatMap_append, hp]
  simp
theorem Mo.shown_len (l : List (UInt8 × Int)) : (Mo.shown l).length = 3 * l.length := by
  unfold Mo.shown
  induction l with
  | nil => rfl
  | cons p l ih => rw [List.flatMap_cons, List.length_append, ih]; simp [Mo.two]; omega

theorem hop_new {w w' : World} {o o' : Option Nat} {k : Nat} (h : Hop w w' o o') (hk : some k ≠ o) (hlt : k < w.heap.size) : some k ≠ o' := by
  rcases h.2 with e | ⟨g, hg, e⟩
  · rwa [e]
  · rw [e]; simp; omega
set_option maxHeartbeats 4000000 in
theorem print_core (d c y m da h n s : Int) (w : World) (hR : ∀ w, Calls Tryd.prog 18 #[.agg #[.int .u16 d, .int .u16 c]] w fun e w' => e = .returned (.bool true) ∧ Below w.heap.size w w')
    (hS : ∀ w, Calls Tryd.prog 15 #[.agg #[.int .u16 d, .int .u16 c]] w fun e w' => e = .returned (.agg #[.int .i64 y, .int .i64 m, .int .i64 da, .int .i64 h, .int .i64 n, .int .i64 s]) ∧ Below w.heap.size w w')
    (hy : 1980 ≤ y ∧ y ≤ 2107) (hb5 : ∀ k, k < 5 → 0 ≤ ((Mo.fives m da h n s).getD k (0, 0)).2 ∧ ((Mo.fives m da h n s).getD k (0, 0)).2 ≤ 99) (ht : TabP w) :
    Calls Tryd.prog 14 #[.agg #[.int .u16 d, .int .u16 c]] w fun e w' => e = .returned (.tuple #[.string (bs (Mo.two (y / 100) ++ Mo.two (y % 100) ++ Mo.shown (Mo.fives m da h n s))), .int .i64 0]) ∧ Below w.heap.size w w' := by
  have HRh := Lib.hid hR
  have HSh := Lib.hid hS
  have HB5 := Lib.hid hb5
  have HT := Lib.hid ht
  have HP4 := Lib.hid (Mo.pad4 y.toNat (by omega) (by omega))
  rw [Int.toNat_of_nonneg (by omega)] at HP4
  have hl4 : (Lib.decDigits y.toNat).length = 4 := by rw [HP4.out]; rfl
  clear hR hS hb5 ht
  obtain ⟨i0, hi, hq0, hq1, hq2⟩ := info_parts infoByte
  go_enter Tryd.func14, Tryd.ntmps14
  go_wp2_with (first
    | (go_at_call 18; refine (HRh.out _).mono ?_; rintro e w1 ⟨rfl, hb⟩; have hB1 := Below.after ((Below.refl w.heap.size w).alloc (Nat.le_refl _) _) hb (by simp); obtain ⟨hc1, hf1⟩ := bcell hb; have hz1 := hb.size; simp at hz1; clear hb)
    | (go_at_call 15; refine (HSh.out _).mono ?_; rintro e w2 ⟨rfl, hb⟩; have hB2 := Below.after hB1 hb hB1.size; have hz2 := hb.size; clear hb)
    | (go_at_call 24; fail))
  have hB3 := hB2.alloc (by omega) (.cells #[.int .i64 y, .int .i64 m, .int .i64 da, .int .i64 h, .int .i64 n, .int .i64 s] 30)
  refine (digits_any (.slice none 0 0) [] (Lib.decDigits y.toNat) y 4 0 w.heap.size _ (BRow.nil _ _ _) (itoa_year y _ (by omega) (by omega) (tab_below HT.out hB3)) (by omega) (by omega) (by omega) (by omega) (by simp) hB3.size).mono ?_
  rintro e w3 ⟨v, rfl, hrow, hhop⟩
  have hB4 : Below w.heap.size w w3 := hB3.trans (hhop.below hB3.size (by simp [Value.ownBlock]))
  have hc3 : ∀ b o, b < w2.heap.size + 1 → w3.cell? ⟨b, o, none⟩ = (w2.alloc (.cells #[.int .i64 y, .int .i64 m, .int .i64 da, .int .i64 h, .int .i64 n, .int .i64 s] 30)).cell? ⟨b, o, none⟩ := fun b o hb => hhop.1.cell_far ⟨b, o, none⟩ (by simpa using hb) (by simp [Value.ownBlock])
  have hrow' := Lib.hid hrow
  have hhop' := Lib.hid hhop
  have hz3 := hhop.1.size
  simp at hz3
  clear hrow hhop
  go_wp2_with fail
  go_loopw [5, 33] (fun v i wr => ∃ k : Nat, k ≤ 5 ∧ i = .int .i64 k ∧ BRow wr w.heap.size 5 v (Mo.two (y / 100) ++ Mo.two (y % 100) ++ Mo.shown ((Mo.fives m da h n s).take k)) ∧
      wr.heap[w3.heap.size]? = some (.cells #[.int .u8 45, .int .i64 m, .int .u8 45, .int .i64 da, .int .u8 32, .int .i64 h, .int .u8 58, .int .i64 n, .int .u8 58, .int .i64 s] 52 (0, 0)) ∧ Below w.heap.size w wr) (fun _ i _ => 5 - (intOf i).toNat)
  case atStart =>
    refine ⟨0, Nat.zero_le _, rfl, ?_, heap_alloc_new _ _, hB4.alloc (by omega) _⟩
    have := hrow'.out.grow ((Below.refl _ _).alloc (Nat.le_refl _) (.cells #[.int .u8 45, .int .i64 m, .int .u8 45, .int .i64 da, .int .u8 32, .int .i64 h, .int .u8 58, .int .i64 n, .int .u8 58, .int .i64 s] 52))
    simpa [HP4.out, Mo.shown] using this
  case round =>
    obtain ⟨k, hk, rfl, hrow, hL, hB⟩ := hrel
    have hrow' := Lib.hid hrow
    have hne := own_ne hrow hL (by decide)
    have hcl : ∀ j, wr.cell? ⟨w3.heap.size, j, none⟩ = #[Value.int .u8 45, .int .i64 m, .int .u8 45, .int .i64 da, .int .u8 32, .int .i64 h, .int .u8 58, .int .i64 n, .int .u8 58, .int .i64 s][j]? := fun j => cell_of_row wr _ j _ _ _ hL
    have hLh := Lib.hid hL
    clear hrow hL
    by_cases hlt : k < 5
    · have h5 := HB5.out k hlt
      have hsn := Lib.hid (Mo.shown_snoc _ k _ (Mo.fives_get m da h n s k hlt))
      have hpc : wr.cell? ⟨w3.heap.size, k * 2, none⟩ = some (.int .u8 ((Mo.fives m da h n s).getD k (0, 0)).1.toNat) ∧ wr.cell? ⟨w3.heap.size, k * 2 + 1, none⟩ = some (.int .i64 ((Mo.fives m da h n s).getD k (0, 0)).2) := by
        have hk5 : k = 0 ∨ k = 1 ∨ k = 2 ∨ k = 3 ∨ k = 4 := by omega
        rcases hk5 with rfl | rfl | rfl | rfl | rfl <;> exact ⟨by rw [hcl]; rfl, by rw [hcl]; rfl⟩
      clear hcl
      obtain ⟨hp1, hp2⟩ := hpc
      generalize (Mo.fives m da h n s).getD k (0, 0) = p at *
      obtain ⟨sg, x⟩ := p
      dsimp only at *
      have hnb : ((wr.alloc (.cells #[.int .u8 sg.toNat, .int .i64 x] 52)).alloc (.cells #[.int .u8 sg.toNat] 5)).drew.heap[wr.heap.size + 1]? = some (.cells #[.int .u8 sg.toNat] 5 (0, 0)) := by
        have := heap_alloc_new (wr.alloc (.cells #[.int .u8 sg.toNat, .int .i64 x] 52)) (.cells #[.int .u8 sg.toNat] 5)
        rw [World.size_alloc] at this
        exact this
      have hnbh := Lib.hid hnb
      clear hnb
      have hzB := hB.size
      have hnew : some wr.heap.size ≠ u5.ownBlock := fun e => by have := (hrow'.out.lt _ e.symm).2; omega
      obtain ⟨HP2, hl1, hl2⟩ := Mo.pad2 x.toNat (by omega)
      rw [Int.toNat_of_nonneg h5.1] at HP2
      have HP2h := Lib.hid HP2
      clear HP2
      have HTr := Lib.hid fun w' (hh : Below w.heap.size w w') => itoa_small x w' h5.1 h5.2
      have hn1 : (Mo.two (y / 100)).length ≤ 2 := Nat.le_refl _
      have hn2 : (Mo.two (y % 100)).length ≤ 2 := Nat.le_refl _
      have hn3 : (Mo.shown (List.take k (Mo.fives m da h n s))).length ≤ 15 := by rw [Mo.shown_len]; have := List.length_take_le k (Mo.fives m da h n s); omega
      go_wp2_with fail
      go_region_held3 (fun w' => w'.cell? ⟨wr.heap.size, 0, none⟩ = some (.int .u8 sg.toNat) ∧ w'.cell? ⟨wr.heap.size, 1, none⟩ = some (.int .i64 x)) (first | go_keep | (go_split_ands; refine ⟨?_, ?_⟩ <;> (rw [hhop5.1.cell_far _ (by simp; omega) hnew2]; assumption)) | (go_split_ands; refine ⟨?_, ?_⟩ <;> (rw [hhop2.1.cell_far _ (by simp; omega) hnew]; simp [*])))
        ((first
          | (refine step_append_row rfl _ _ 50 50 rfl w.heap.size 5 i0 (.int .u8 0) 1 1 Tryd.underlying50 hi hq0 hq1 hq2 rfl u5 _ _ rfl (hrow'.out.grow (by exact Below.drew (((Below.refl _ _).alloc (Nat.le_refl _) _).alloc (by simp) _))) (.slice (some ⟨wr.heap.size + 1, 0, none⟩) 1 1) 1 [.int .u8 sg.toNat] rfl ?_ (src_block Tryd.underlying50 1 1 1 _ #[.int .u8 sg.toNat] _ _ hnbh.out rfl (by simp [Value.oneCell'])) (by simp [maxLen]; omega) (by simp; omega) (by simp; omega); intro v' w' hown' hhop2; have hsz5 := hhop2.1.size; simp at hsz5; have hnew2 : some wr.heap.size ≠ v'.ownBlock := hop_new hhop2 hnew (by simp; omega))
          | (go_at_call 24; go_must (refine (digits_any v' (Mo.two (y / 100) ++ Mo.two (y % 100) ++ Mo.shown (List.take k (Mo.fives m da h n s)) ++ [sg]) (Lib.decDigits x.toNat) x 2 (2 - (Lib.decDigits x.toNat).length) w.heap.size _ (BRow.app (m := [sg]) hown' rfl) (itoa_small x _ h5.1 h5.2) (by omega) (by omega) (by omega) (by omega) (by simp; omega) (by omega)).mono ?_); rintro e w5 ⟨v5, rfl, hrow5, hhop5⟩)))
      go_wp2
      have hLX : ∀ w6 : World, w6 = ((wr.alloc (.cells #[.int .u8 sg.toNat, .int .i64 x] 52)).alloc (.cells #[.int .u8 sg.toNat] 5)).drew → w6.heap[w3.heap.size]? = wr.heap[w3.heap.size]? := fun w6 e => by
        rw [e]; exact (((Below.refl wr.heap.size wr).alloc (Nat.le_refl _) _).alloc (by simp) _).block _ (Array.getElem?_eq_some_iff.1 hLh.out).1
      have hLt := (Array.getElem?_eq_some_iff.1 hLh.out).1
      have hne2 := hop_new hhop2 hne (by simp; omega)
      have hB6 : Below w.heap.size w ((wr.alloc (.cells #[.int .u8 sg.toNat, .int .i64 x] 52)).alloc (.cells #[.int .u8 sg.toNat] 5)).drew := ((hB.alloc hzB _).alloc (by simp; omega) _).drew
      have hB7 := hB6.trans (hhop2.below (by simp; omega) (fun k hk => (hrow'.out.lt k hk).1))
      have hB8 := hB7.trans (hhop5.below (by omega) (fun k hk => (hown'.lt k hk).1))
      refine ⟨⟨k + 1, by omega, by go_num, ?_, ?_, hB8⟩, by simp [intOf]; omega⟩
      · rw [hsn.out]
        have := hrow5
        rw [List.append_assoc, HP2h.out] at this
        simpa [List.append_assoc] using this
      · rw [hhop5.1.block _ (by omega) hne2, hhop2.1.block _ (by simp; omega) hne, hLX _ rfl]
        exact hLh.out
    · have hk5 : k = 5 := by omega
      have hrow2 := hrow'.out
      rw [show (Mo.fives m da h n s).take k = Mo.fives m da h n s by rw [hk5]; rfl] at hrow2
      have hcv := hrow2.string (P := Tryd.prog) 50 9 5 Tryd.underlying50 Tryd.underlying5 Tryd.underlying9
      clear hrow2 hk5
      go_wp2
      go_ret2
      exact ⟨rfl, hB⟩
end Go.Proofs.YtbcanoknddpmeaaDoor
