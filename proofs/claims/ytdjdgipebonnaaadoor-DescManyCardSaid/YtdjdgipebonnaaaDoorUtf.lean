/- The walks of layer 15's reading of units. -/
import Derived.Test.YtdjdgipebonnaaaDoorUtfPlain
import Derived.Test.YtdjdgipebonnaaaDoorBits
import Derived.Test.YtdjdgipebonnaaaDoorAppend
import Derived.Test.YtdjdgipebonnaaaDoorOrder
import Derived.Test.YtdjdgipebonnaaaDoorAnys
namespace Go.Proofs.YtdjdgipebonnaaaDoor
open Go.RowKit

theorem wraps_u8 (n : Int) (h₀ : 0 ≤ n) (h₁ : n < 2 ^ 8) : IntKind.u8.wrap n = n := by rw [IntKind.wrap_u8]; omega
theorem u8_and63 (x : Int) (h₀ : 0 ≤ x) (h₁ : x < 256) : bits .and .u8 x 63 = x % 64 := bits_mask .u8 8 (by decide) wraps_u8 6 (by decide) x h₀ h₁
theorem u8_and31 (x : Int) (h₀ : 0 ≤ x) (h₁ : x < 256) : bits .and .u8 x 31 = x % 32 := bits_mask .u8 8 (by decide) wraps_u8 5 (by decide) x h₀ h₁
theorem u8_and15 (x : Int) (h₀ : 0 ≤ x) (h₁ : x < 256) : bits .and .u8 x 15 = x % 16 := bits_mask .u8 8 (by decide) wraps_u8 4 (by decide) x h₀ h₁
theorem u16_or (i : Nat) (x y : Int) (hx₀ : 0 ≤ x) (hx : x % 2 ^ i = 0) (hx₁ : x < 2 ^ 16) (hy₀ : 0 ≤ y) (hy : y < 2 ^ i) (hy₁ : y < 2 ^ 16) : bits .or .u16 x y = x + y :=
  bits_join .u16 16 (by decide) wraps_u16 i x y hx₀ hx hx₁ hy₀ hy hy₁

set_option maxHeartbeats 4000000 in
theorem further_any (bk : Nat) (i : Nat) (l : List UInt8) (w : World) (hc : w.cell? ⟨bk, 0, none⟩ = some (.string (bs l))) (_hl : l.length ≤ 1000000000) (_hi : i ≤ 2) :
    Calls Tryd.prog 67 #[.int .i64 i, .pointer (some ⟨bk, 0, none⟩)] w fun e w' => e = .returned (.tuple #[.int .u16 (Ut.fx l i : Nat), .bool (Ut.cont l i)]) ∧ w = w' := by
  have hz := bs_size l
  by_cases h1 : i < l.length
  · obtain ⟨c, hcc⟩ : ∃ c, l[i]? = some c := ⟨_, List.getElem?_eq_getElem h1⟩
    have ic := fun x => bs_index l i c hcc .i64 i rfl x
    have c256 := c.toNat_lt
    have d1 : decide (l.length ≤ i) = false := decide_eq_false (by omega)
    by_cases h2 : c.toNat / 64 = 2
    · have e1 := Lib.hid (show Ut.fx l i = c.toNat % 64 by unfold Ut.fx; rw [hcc]; exact if_pos h2)
      have e2 := Lib.hid (show Ut.cont l i = true by unfold Ut.cont; rw [hcc]; exact decide_eq_true h2)
      have m1 := u8_and63 (c.toNat : Int) (by omega) (by omega)
      have d2 : ((c.toNat : Int) / 64 != 2) = false := by simp; omega
      clear hcc h2
      go_enter Tryd.func67, Tryd.ntmps67
      go_wp2
      go_ret2
      exact ⟨by rw [e1.out, e2.out]; simp, rfl⟩
    · have e1 := Lib.hid (show Ut.fx l i = 0 by unfold Ut.fx; rw [hcc]; exact if_neg h2)
      have e2 := Lib.hid (show Ut.cont l i = false by unfold Ut.cont; rw [hcc]; exact decide_eq_false h2)
      have d2 : ((c.toNat : Int) / 64 != 2) = true := by simp; omega
      clear hcc h2
      go_enter Tryd.func67, Tryd.ntmps67
      go_wp2
      go_ret2
      exact ⟨by rw [e1.out, e2.out]; rfl, rfl⟩
  · have hn : l[i]? = none := List.getElem?_eq_none (by omega)
    have e1 := Lib.hid (show Ut.fx l i = 0 by unfold Ut.fx; rw [hn])
    have e2 := Lib.hid (show Ut.cont l i = false by unfold Ut.cont; rw [hn])
    have d1 : decide (l.length ≤ i) = true := decide_eq_true (by omega)
    clear hn
    go_enter Tryd.func67, Tryd.ntmps67
    go_wp2
    go_ret2
    exact ⟨by rw [e1.out, e2.out]; rfl, rfl⟩

set_option maxHeartbeats 8000000 in
set_option maxRecDepth 100000 in
theorem next_any (l : List UInt8) (w : World) (hne : l ≠ []) (hl : l.length ≤ 1000000000) :
    Calls Tryd.prog 55 #[.string (bs l)] w fun e w' => e = .returned (.tuple #[.int .u16 ((Ut.next l).1 : Nat), .int .i64 ((Ut.next l).2 : Nat)]) ∧ Below w.heap.size w w' := by
  have hz := bs_size l
  have h0 : 0 < l.length := List.length_pos_iff.2 hne
  obtain ⟨c, hcc⟩ : ∃ c, l[0]? = some c := ⟨_, List.getElem?_eq_getElem h0⟩
  have ic := fun x => bs_index l 0 c hcc .i64 0 rfl x
  have c256 := c.toNat_lt
  have hd : l.headD 0 = c := by cases l with | nil => exact absurd rfl hne | cons a r => simpa using hcc
  have f1 := fun w' (h : w'.cell? ⟨w.heap.size, 0, none⟩ = some (.string (bs l))) => further_any w.heap.size 1 l w' h hl (by omega)
  have f2 := fun w' (h : w'.cell? ⟨w.heap.size, 0, none⟩ = some (.string (bs l))) => further_any w.heap.size 2 l w' h hl (by omega)
  have F1 := Lib.hid f1
  have F2 := Lib.hid f2
  have x1 := Ut.fx_lt l 1
  have x2 := Ut.fx_lt l 2
  have en : Ut.next l = (if c.toNat ≠ 0 ∧ c.toNat < 128 then (c.toNat, 1)
      else if c.toNat / 32 = 6 then (if Ut.cont l 1 = true ∧ (Ut.u2 l = 0 ∨ 128 ≤ Ut.u2 l) then (Ut.u2 l, 2) else (0, 0))
      else if c.toNat / 16 = 14 then (if Ut.cont l 1 = true ∧ Ut.cont l 2 = true ∧ 2048 ≤ Ut.u3 l then (Ut.u3 l, 3) else (0, 0)) else (0, 0)) := by unfold Ut.next; rw [hd]
  have eu2 : Ut.u2 l = c.toNat % 32 * 64 + Ut.fx l 1 := by unfold Ut.u2; rw [hd]
  have eu3 : Ut.u3 l = c.toNat % 16 * 4096 + Ut.fx l 1 * 64 + Ut.fx l 2 := by unfold Ut.u3; rw [hd]
  have EN := Lib.hid en
  have E2 := Lib.hid eu2
  have E3 := Lib.hid eu3
  clear f1 f2 hd hcc en eu2 eu3
  by_cases c1 : c.toNat ≠ 0 ∧ c.toNat < 128
  · have en := Lib.hid (show Ut.next l = (c.toNat, 1) by rw [EN.out, if_pos c1])
    obtain ⟨c1, c2⟩ := c1
    have d1 : ((c.toNat : Int) != 0) = true := by simp; omega
    have d2 : decide ((c.toNat : Int) < 128) = true := decide_eq_true (by omega)
    clear c1
    go_enter Tryd.func55, Tryd.ntmps55
    go_wp2
    go_ret2
    exact ⟨by rw [en.out]; rfl, (Below.refl _ _).alloc (Nat.le_refl _) _⟩
  · have d1 : ((c.toNat : Int) != 0) = false ∨ ((c.toNat : Int) != 0) = true ∧ decide ((c.toNat : Int) < 128) = false := by simp; omega
    by_cases k2 : c.toNat / 32 = 6
    · have EN2 := Lib.hid (show Ut.next l = (if Ut.cont l 1 = true ∧ (Ut.u2 l = 0 ∨ 128 ≤ Ut.u2 l) then (Ut.u2 l, 2) else (0, 0)) by rw [EN.out, if_neg c1, if_pos k2])
      have d2 : ((c.toNat : Int) / 32 == 6) = true := by simp; omega
      have m1 := u8_and31 (c.toNat : Int) (by omega) (by omega)
      have o1 := u16_or 6 ((c.toNat : Int) % 32 * 64) (Ut.fx l 1 : Nat) (by omega) (by omega) (by omega) (by omega) (by omega) (by omega)
      rw [show ((c.toNat : Int) % 32 * 64) + (Ut.fx l 1 : Nat) = ((Ut.u2 l : Nat) : Int) by rw [E2.out]; omega] at o1
      generalize Ut.u2 l = u at *
      have ck : c.toNat ≠ 0 ∧ 128 ≤ c.toNat := by omega
      have d3 : ((c.toNat : Int) != 0) = true := by simp; omega
      have d4 : decide ((c.toNat : Int) < 128) = false := decide_eq_false (by omega)
      clear E2 E3 EN c1 k2 d1 x2
      have hcs : (Ut.cont l 1 = true ∧ ((u : Int) == 0) = true ∧ Hid (Ut.next l = (u, 2))) ∨ (Ut.cont l 1 = true ∧ ((u : Int) == 0) = false ∧ decide ((128 : Int) ≤ u) = true ∧ Hid (Ut.next l = (u, 2))) ∨
          (Ut.cont l 1 = true ∧ ((u : Int) == 0) = false ∧ decide ((128 : Int) ≤ u) = false ∧ Hid (Ut.next l = (0, 0))) ∨ (Ut.cont l 1 = false ∧ Hid (Ut.next l = (0, 0))) := by
        have e := EN2.out
        by_cases b1 : Ut.cont l 1 = true
        · by_cases b2 : u = 0
          · left; exact ⟨b1, by simp [b2], Lib.hid (by rw [e, if_pos ⟨b1, .inl b2⟩])⟩
          · by_cases b3 : 128 ≤ u
            · right; left; exact ⟨b1, by simp; omega, decide_eq_true (by omega), Lib.hid (by rw [e, if_pos ⟨b1, .inr b3⟩])⟩
            · right; right; left; exact ⟨b1, by simp; omega, decide_eq_false (by omega), Lib.hid (by rw [e, if_neg (fun h => by rcases h.2 with h | h; exact b2 h; exact b3 h)])⟩
        · right; right; right; exact ⟨by simpa using b1, Lib.hid (by rw [e, if_neg (fun h => b1 h.1)])⟩
      clear EN2
      rcases hcs with ⟨b1, b2, en⟩ | ⟨b1, b2, b3, en⟩ | ⟨b1, b2, b3, en⟩ | ⟨b1, en⟩
      all_goals
        go_enter Tryd.func55, Tryd.ntmps55
        go_wp2_with fail
        refine (F1.out _ (cell_of_row _ _ 0 _ _ _ (heap_alloc_new w _))).mono ?_
        rintro e w1 ⟨rfl, rfl⟩
        go_wp2
        go_ret2
        exact ⟨by rw [en.out]; rfl, (Below.refl _ _).alloc (Nat.le_refl _) _⟩
    · have d2 : ((c.toNat : Int) / 32 == 6) = false := by simp; omega
      by_cases k3 : c.toNat / 16 = 14
      · have EN2 := Lib.hid (show Ut.next l = (if Ut.cont l 1 = true ∧ Ut.cont l 2 = true ∧ 2048 ≤ Ut.u3 l then (Ut.u3 l, 3) else (0, 0)) by rw [EN.out, if_neg c1, if_neg k2, if_pos k3])
        have d5 : ((c.toNat : Int) / 16 == 14) = true := by simp; omega
        have m1 := u8_and15 (c.toNat : Int) (by omega) (by omega)
        have o1 := u16_or 12 ((c.toNat : Int) % 16 * 4096) ((Ut.fx l 1 : Nat) * 64) (by omega) (by omega) (by omega) (by omega) (by omega) (by omega)
        have o2 := u16_or 6 ((c.toNat : Int) % 16 * 4096 + (Ut.fx l 1 : Nat) * 64) (Ut.fx l 2 : Nat) (by omega) (by omega) (by omega) (by omega) (by omega) (by omega)
        rw [show ((c.toNat : Int) % 16 * 4096) + (Ut.fx l 1 : Nat) * 64 + (Ut.fx l 2 : Nat) = ((Ut.u3 l : Nat) : Int) by rw [E3.out]; omega] at o2
        generalize Ut.u3 l = u at *
        have d3 : ((c.toNat : Int) != 0) = true := by simp; omega
        have d4 : decide ((c.toNat : Int) < 128) = false := decide_eq_false (by omega)
        have hcs : (Ut.cont l 1 = true ∧ Ut.cont l 2 = true ∧ decide ((2048 : Int) ≤ u) = true ∧ Hid (Ut.next l = (u, 3))) ∨ (Ut.cont l 1 = true ∧ Ut.cont l 2 = true ∧ decide ((2048 : Int) ≤ u) = false ∧ Hid (Ut.next l = (0, 0))) ∨
            (Ut.cont l 1 = true ∧ Ut.cont l 2 = false ∧ True ∧ Hid (Ut.next l = (0, 0))) ∨ (Ut.cont l 1 = false ∧ True ∧ True ∧ Hid (Ut.next l = (0, 0))) := by
          have e := EN2.out
          by_cases b1 : Ut.cont l 1 = true
          · by_cases b2 : Ut.cont l 2 = true
            · by_cases b3 : 2048 ≤ u
              · left; exact ⟨b1, b2, decide_eq_true (by omega), Lib.hid (by rw [e, if_pos ⟨b1, b2, b3⟩])⟩
              · right; left; exact ⟨b1, b2, decide_eq_false (by omega), Lib.hid (by rw [e, if_neg (fun h => b3 h.2.2)])⟩
            · right; right; left; exact ⟨b1, by simpa using b2, trivial, Lib.hid (by rw [e, if_neg (fun h => b2 h.2.1)])⟩
          · right; right; right; exact ⟨by simpa using b1, trivial, trivial, Lib.hid (by rw [e, if_neg (fun h => b1 h.1)])⟩
        clear EN2 E2 E3 EN c1 k2 k3 d1
        rcases hcs with ⟨b1, b2, b3, en⟩ | ⟨b1, b2, b3, en⟩ | ⟨b1, b2, b3, en⟩ | ⟨b1, b2, b3, en⟩
        all_goals
          go_enter Tryd.func55, Tryd.ntmps55
          go_wp2_with fail
          refine (F1.out _ (cell_of_row _ _ 0 _ _ _ (heap_alloc_new w _))).mono ?_
          rintro e w1 ⟨rfl, rfl⟩
          go_wp2_with fail
          refine (F2.out _ (cell_of_row _ _ 0 _ _ _ (heap_alloc_new w _))).mono ?_
          rintro e w1 ⟨rfl, rfl⟩
          go_wp2
          go_ret2
          exact ⟨by rw [en.out]; rfl, (Below.refl _ _).alloc (Nat.le_refl _) _⟩
      · have en := Lib.hid (show Ut.next l = (0, 0) by rw [EN.out, if_neg c1, if_neg k2, if_neg k3])
        have d5 : ((c.toNat : Int) / 16 == 14) = false := by simp; omega
        clear EN E2 E3 c1 k2 k3
        rcases d1 with d1 | ⟨d1, d3⟩
        all_goals
          go_enter Tryd.func55, Tryd.ntmps55
          go_wp2
          go_ret2
          exact ⟨by rw [en.out]; rfl, (Below.refl _ _).alloc (Nat.le_refl _) _⟩
end Go.Proofs.YtdjdgipebonnaaaDoor
