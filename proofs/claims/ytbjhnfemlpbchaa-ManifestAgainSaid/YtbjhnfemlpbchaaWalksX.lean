/- The walk of layer 14: the law on what is read. -/
import Derived.Test.YtbjhnfemlpbchaaWalksQ
import Derived.Test.YtbjhnfemlpbchaaWalksV
import Derived.Test.YtbjhnfemlpbchaaWalksW
namespace Go.Proofs.Ytbjhnfemlpbchaa
open Go.RowKit

/-- What is read is no more than there were signs. -/
theorem Ma.parts_mem (L : List (List (List UInt8))) : ∀ s ∈ (Ma.parts L).2, ∃ m, ∃ ls ∈ L, s = (Ma.sect m ls).2 := by
  have aux : ∀ (K : List (List (List UInt8))) (s0 : Nat × List (List Pr)), (∀ x ∈ K, x ∈ L) → (∀ s ∈ s0.2, ∃ m, ∃ ls ∈ L, s = (Ma.sect m ls).2) → ∀ s ∈ (K.foldl Ma.pstep s0).2, ∃ m, ∃ ls ∈ L, s = (Ma.sect m ls).2 := by
    intro K
    induction K with
    | nil => intro s0 _ h; exact h
    | cons x K ih =>
      intro s0 hK h
      rw [List.foldl_cons]
      refine ih _ (fun y hy => hK y (List.mem_cons_of_mem _ hy)) fun s hs => ?_
      unfold Ma.pstep at hs
      split at hs
      · exact h s hs
      · split at hs
        · exact h s hs
        · rcases List.mem_append.1 hs with hs | hs
          · exact h s hs
          · rw [List.mem_singleton] at hs
            exact ⟨_, x, hK x (List.mem_cons_self ..), hs⟩
  exact aux L (0, []) (fun _ h => h) (fun s hs => by cases hs)
theorem Ma.parse_small (b : List UInt8) : (Ma.parse b).2.length ≤ b.length + 1 ∧ ∀ s ∈ (Ma.parse b).2, s.length ≤ b.length ∧ ∀ p ∈ s, p.1.length ≤ b.length ∧ p.2.length ≤ b.length := by
  obtain ⟨h1, h2⟩ := close_small (b := b)
  have h3 : (Ma.parts (Ma.close (Ma.runl (Ma.cuts b)))).2.length ≤ b.length + 1 := Nat.le_trans (Ma.parts_len _) h1
  have h4 : ∀ s ∈ (Ma.parts (Ma.close (Ma.runl (Ma.cuts b)))).2, s.length ≤ b.length ∧ ∀ p ∈ s, p.1.length ≤ b.length ∧ p.2.length ≤ b.length := fun s hs => by
    obtain ⟨m, ls, hls, rfl⟩ := Ma.parts_mem _ s hs
    exact ⟨Nat.le_trans (Ma.sect_len m ls) (h2 ls hls).1, Ma.sect_le (h2 ls hls).2⟩
  have nil : ∀ n : Nat, ((n, []) : Nat × List (List Pr)).2.length ≤ b.length + 1 ∧ ∀ s ∈ ((n, []) : Nat × List (List Pr)).2, s.length ≤ b.length ∧ ∀ p ∈ s, p.1.length ≤ b.length ∧ p.2.length ≤ b.length := fun n => ⟨Nat.zero_le _, fun s hs => by cases hs⟩
  unfold Ma.parse
  split
  · exact nil _
  split
  · exact nil _
  split
  · exact nil _
  split
  · exact nil _
  split
  · exact nil _
  exact ⟨h3, h4⟩

theorem mem_head_tail {α : Type} {l : List (List α)} {s : List α} (h : s ∈ l.headD [] :: l.tail) : s ∈ l ∨ s = [] := by
  cases l with
  | nil => simp at h; exact .inr h
  | cons x l => exact .inl h

set_option maxHeartbeats 8000000 in
set_option maxRecDepth 100000 in
theorem reads_any (A : Option Addr) (c : Nat) (b : List UInt8) (w : World) (hx : BAt w A c b) (hm : MaxP w) :
    Calls Try.prog 3 #[.slice A b.length c] w fun e w' => e = .returned (.bool true) ∧ Below w.heap.size w w' := by
  have HX := Lib.hid hx
  have HM := Lib.hid hm
  clear hx hm
  go_enter Try.func3, Try.ntmps3
  go_wp2_with fail
  refine (fixed_any w HM.out).mono ?_
  rintro e w1 ⟨rfl, hb⟩
  have J1 := Lib.hid hb
  clear hb
  by_cases g1 : 1500 < b.length
  · have u1 : decide (1500 < b.length) = true := decide_eq_true g1
    have u2 : decide ((1500 : Int) < (b.length : Int)) = true := decide_eq_true (by omega)
    go_wp2
    go_ret
    exact ⟨rfl, J1.out⟩
  have u1 : decide (1500 < b.length) = false := decide_eq_false g1
  have u2 : decide ((1500 : Int) < (b.length : Int)) = false := decide_eq_false (by omega)
  have h1 := Lib.hid (fun w h1 h2 => parse_any A c b w h1 (by omega) h2)
  have h2 := Lib.hid (fun w h1 => rparse_any A c b w h1 (by omega))
  obtain ⟨hs1, hs2⟩ := Ma.parse_small b
  have hpl : (Ma.parse b).2.tail.length ≤ 1000000 := by rw [List.length_tail]; omega
  have hsl := Lib.hid (show ∀ s ∈ (Ma.parse b).2.headD [] :: (Ma.parse b).2.tail, s.length ≤ 1000000000000 from fun s hs => by
    rcases mem_head_tail hs with h | h
    · have := (hs2 s h).1; omega
    · rw [h]; simp)
  clear hs1 hs2
  generalize (Ma.parse b).2.headD [] = mm at h1 h2 hsl
  generalize (Ma.parse b).2.tail = pp at h1 h2 hsl hpl
  generalize (Ma.parse b).1 = er at h1 h2
  go_wp2_with fail
  refine (h1.out w1 (HX.out.grow J1.out) (max_below HM.out J1.out)).mono ?_
  rintro e w2 ⟨v, rfl, hM, hb2⟩
  obtain ⟨A1, c1, B1, d1, rfl, hA1, hB1⟩ := hM
  have k2 := (Below.refl w2.heap.size w2).alloc (Nat.le_refl _) (.cells #[.slice A1 mm.length c1, .slice B1 pp.length d1] 27)
  have q2 : (w2.alloc (.cells #[.slice A1 mm.length c1, .slice B1 pp.length d1] 27)).heap[w2.heap.size]? = some (.cells #[.slice A1 mm.length c1, .slice B1 pp.length d1] 27 (0, 0)) := heap_alloc_new _ _
  have J2 := Lib.hid (Below.after' J1.out hb2 (Nat.le_refl _))
  have HA1 := Lib.hid hA1
  have HB1 := Lib.hid hB1
  have K2 := Lib.hid k2
  have Q2 := Lib.hid q2
  clear hb2 hA1 hB1 k2 q2
  go_wp2_with fail
  refine (h2.out _ (HX.out.grow (Below.after' J2.out K2.out (Nat.le_refl _)))).mono ?_
  rintro e w3 ⟨v, rfl, hM, hb3⟩
  obtain ⟨A2, c2, B2, d2, rfl, hA2, hB2⟩ := hM
  have k3 := (Below.refl w3.heap.size w3).alloc (Nat.le_refl _) (.cells #[.slice A2 mm.length c2, .slice B2 pp.length d2] 27)
  have q3 : (w3.alloc (.cells #[.slice A2 mm.length c2, .slice B2 pp.length d2] 27)).heap[w3.heap.size]? = some (.cells #[.slice A2 mm.length c2, .slice B2 pp.length d2] 27 (0, 0)) := heap_alloc_new _ _
  have hlt2 : w2.heap.size < (w2.alloc (.cells #[.slice A1 mm.length c1, .slice B1 pp.length d1] 27)).heap.size := (Array.getElem?_eq_some_iff.1 Q2.out).1
  have hlt3 : w2.heap.size < w3.heap.size := Nat.lt_of_lt_of_le hlt2 hb3.size
  have K3 := Lib.hid (Below.after' K2.out (Below.after' hb3 k3 (Nat.le_refl _)) (Nat.le_refl _))
  have q2' := (k3.block _ hlt3).trans ((hb3.block _ hlt2).trans Q2.out)
  have K3' := Lib.hid k3
  have HA2 := Lib.hid (hA2.grow k3)
  have HB2 := Lib.hid (hB2.grow k3)
  have e0 : (w3.alloc (.cells #[.slice A2 mm.length c2, .slice B2 pp.length d2] 27)).cell? ⟨w2.heap.size, 0, none⟩ = some (.slice A1 mm.length c1) := (blk_facts q2').1 0
  have e1 : (w3.alloc (.cells #[.slice A2 mm.length c2, .slice B2 pp.length d2] 27)).cell? ⟨w2.heap.size, 1, none⟩ = some (.slice B1 pp.length d1) := (blk_facts q2').1 1
  have e2 : (w3.alloc (.cells #[.slice A2 mm.length c2, .slice B2 pp.length d2] 27)).cell? ⟨w3.heap.size, 0, none⟩ = some (.slice A2 mm.length c2) := (blk_facts q3).1 0
  have e3 : (w3.alloc (.cells #[.slice A2 mm.length c2, .slice B2 pp.length d2] 27)).cell? ⟨w3.heap.size, 1, none⟩ = some (.slice B2 pp.length d2) := (blk_facts q3).1 1
  have er1 : ((er : Int) == (er : Int)) = true := by simp
  clear q3 q2' hb3 k3 hA2 hB2
  go_wp2_with fail
  refine (same_any A1 c1 mm B1 d1 pp A2 c2 mm B2 d2 pp _ (HA1.out.grow K3.out) (HB1.out.grow K3.out) HA2.out HB2.out hpl hpl hsl.out).mono ?_
  rintro e w4 ⟨rfl, hb4⟩
  have J4 := Lib.hid (Below.after' (Below.after' J2.out K3.out (Nat.le_refl _)) hb4 (Nat.le_refl _))
  rw [decide_eq_true rfl]
  clear hb4
  go_wp2
  go_ret
  exact ⟨rfl, J4.out⟩
end Go.Proofs.Ytbjhnfemlpbchaa
