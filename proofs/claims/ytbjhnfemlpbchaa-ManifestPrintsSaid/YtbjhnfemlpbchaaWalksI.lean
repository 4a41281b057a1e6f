/- The walks of layer 14: which header is meant. -/
import Derived.Test.YtbjhnfemlpbchaaPairs
import Derived.Test.YtbjhnfemlpbchaaWalksG
import Derived.Test.YtbjhnfemlpbchaaGrow
import Derived.Test.YtbjhnfemlpbchaaOrder
namespace Go.Proofs.Ytbjhnfemlpbchaa
open Go.RowKit

def Ma.is (name : List UInt8) (p : Pr) : Bool := Ma.small p.1 == Ma.small name

set_option maxHeartbeats 4000000 in
set_option maxRecDepth 100000 in
theorem get1_any (p : Pr) (name : List UInt8) (b : Nat) (w : World) (hb : b < w.heap.size) (hc : w.cell? ⟨b, 0, none⟩ = some (.string (bs name))) (h1 : p.1.length ≤ 140737488355328) (h2 : name.length ≤ 140737488355328) :
    Calls Try.prog 34 #[pv p, .pointer (some ⟨b, 0, none⟩)] w fun e w' => e = .returned (.bool (Ma.is name p)) ∧ Below w.heap.size w w' := by
  have HS1 := Lib.hid (fun w => small_wide p.1 w h1)
  have HS2 := Lib.hid (fun w => small_wide name w h2)
  have hfin := Lib.hid (show Ma.is name p = (Ma.small p.1 == Ma.small name) from rfl)
  unfold pv
  generalize Ma.small p.1 = s1 at *
  generalize Ma.small name = s2 at *
  go_enter Try.func34, Try.ntmps34
  go_wp2_with fail
  rename_i hK
  have q : (w.alloc (.cells #[.string (bs p.1), .string (bs p.2)] 44)).heap[w.heap.size]? = some (.cells #[.string (bs p.1), .string (bs p.2)] 44 (0, 0)) := heap_alloc_new _ _
  have k0 := (Below.refl w.heap.size w).alloc (Nat.le_refl _) (.cells #[.string (bs p.1), .string (bs p.2)] 44)
  generalize w.alloc (.cells #[.string (bs p.1), .string (bs p.2)] 44) = W at q k0 ⊢
  have c0 : W.cell? ⟨w.heap.size, 0, none⟩ = some (.string (bs p.1)) := (blk_facts q).1 0
  have hc' : W.cell? ⟨b, 0, none⟩ = some (.string (bs name)) := (k0.cell (p := ⟨b, 0, none⟩) hb).trans hc
  have hb' : b < W.heap.size := Nat.lt_of_lt_of_le hb k0.size
  have hs' : w.heap.size < W.heap.size := (Array.getElem?_eq_some_iff.1 q).1
  have K0 := Lib.hid k0
  clear q k0 hc hb h1 h2
  refine wp_region_grow (by kernel_rfl) (by kernel_rfl) ?_
  repeat (go_big_quiet_step ((go_at_call 35; first | with_reducible exact Gr.call (HS1.out _) | with_reducible exact Gr.call (HS2.out _))))
  refine wpQuiet_nil ?_
  intro g1
  obtain ⟨w1, hb1⟩ := g1
  have HB := Lib.hid (Below.after' K0.out hb1 (Nat.le_refl _))
  dsimp only
  clear hb1
  refine hK _ _ (wp_ret ?_)
  go_ret
  refine ⟨ret_bool ?_, HB.out⟩
  rw [hfin.out, bs_beq]
  by_cases h : s1 = s2 <;> simp [h]

theorem get1_at (name : List UInt8) (b : Nat) (w : World) (hb : b < w.heap.size) (hc : w.cell? ⟨b, 0, none⟩ = some (.string (bs name))) (h2 : name.length ≤ 140737488355328) :
    ∀ (W : World) (p : Pr), p.1.length ≤ 140737488355328 → Below w.heap.size w W → Calls Try.prog 34 #[pv p, .pointer (some ⟨b, 0, none⟩)] W fun e w' => e = .returned (.bool (Ma.is name p)) ∧ Below W.heap.size W w' :=
  fun W p h1 hb' => get1_any p name b W (Nat.lt_of_lt_of_le hb hb'.size) ((hb'.cell (p := ⟨b, 0, none⟩) hb).trans hc) h1 h2

/-- The first place, or none. -/
def Ma.place (p : Pr → Bool) (xs : List Pr) : Int := match xs.findIdx? p with | some i => (i : Int) | none => -1

theorem findIdx_hit {p : Pr → Bool} {xs : List Pr} {i : Nat} {q : Pr} (h0 : (xs.take i).findIdx? p = none) (hq : xs[i]? = some q) (hp : p q = true) : xs.findIdx? p = some i := by
  obtain ⟨h1, rfl⟩ := List.getElem?_eq_some_iff.1 hq
  conv => lhs; rw [← List.take_append_drop i xs, List.drop_eq_getElem_cons h1]
  rw [List.findIdx?_append, h0, List.findIdx?_cons, hp]
  simp; omega
theorem findIdx_miss {p : Pr → Bool} {xs : List Pr} {i : Nat} {q : Pr} (h0 : (xs.take i).findIdx? p = none) (hq : xs[i]? = some q) (hp : p q = false) : (xs.take (i + 1)).findIdx? p = none := by
  obtain ⟨h1, rfl⟩ := List.getElem?_eq_some_iff.1 hq
  rw [List.take_succ_eq_append_getElem h1, List.findIdx?_append, h0, List.findIdx?_cons, hp]
  simp
theorem find_none {p : Pr → Bool} {xs : List Pr} (h : xs.findIdx? p = none) : xs.find? p = none := by
  rw [List.findIdx?_eq_none_iff] at h
  rw [List.find?_eq_none]
  intro x hx
  rw [h x hx]
  simp
theorem find_some {p : Pr → Bool} : ∀ {xs : List Pr} {i : Nat}, xs.findIdx? p = some i → ∃ q, xs[i]? = some q ∧ xs.find? p = some q
  | [], i, h => by simp at h
  | x :: xs, i, h => by
    rw [List.findIdx?_cons] at h
    by_cases hp : p x = true
    · rw [if_pos hp] at h
      cases h
      exact ⟨x, rfl, List.find?_cons_of_pos hp⟩
    · rw [if_neg hp] at h
      obtain ⟨k, hk, rfl⟩ := Option.map_eq_some_iff.1 h
      obtain ⟨q, h1, h2⟩ := find_some hk
      exact ⟨q, by simpa using h1, by rw [List.find?_cons_of_neg hp]; exact h2⟩

set_option maxHeartbeats 4000000 in
set_option maxRecDepth 100000 in
theorem indexFunc_any (p : Pr → Bool) (lb : Array Value) (A : Option Addr) (c : Nat) (xs : List Pr) (w : World) (hx : Prs w A c xs) (hn : xs.length ≤ 1000000)
    (hp : ∀ (W : World) (x : Pr), x ∈ xs → Below w.heap.size w W → Calls Try.prog 34 (#[pv x] ++ lb) W fun e w' => e = .returned (.bool (p x)) ∧ Below W.heap.size W w') :
    Calls Try.prog 33 #[.slice A xs.length c, .func (.func 34) #[] lb] w fun e w' => e = .returned (.int .i64 (Ma.place p xs)) ∧ Below w.heap.size w w' := by
  have HX := Lib.hid hx
  have HP := Lib.hid hp
  clear hx hp
  go_enter Try.func33, Try.ntmps33
  go_wp2_with fail
  go_loopw [8] (fun u wr => ∃ i : Nat, i ≤ xs.length ∧ u = .int .i64 i ∧ (xs.take i).findIdx? p = none ∧ Below w.heap.size w wr) (fun u _ => xs.length - (intOf u).toNat)
  case atStart => exact ⟨0, Nat.zero_le _, rfl, rfl, Below.refl _ _⟩
  case round =>
    obtain ⟨i, hil, rfl, hno, hB⟩ := hrel
    by_cases h1 : i < xs.length
    · obtain ⟨g, o, q, rfl, hg, hq, c1, c2⟩ := (HX.out.grow hB).at_ h1
      have hcall := HP.out wr q (List.mem_of_getElem? hq) hB
      have HB := Lib.hid hB
      unfold pv at hcall
      cases hpq : p q with
      | true =>
        rw [hpq] at hcall
        have hfin := Lib.hid (show Ma.place p xs = (i : Int) by
          unfold Ma.place
          rw [findIdx_hit hno hq hpq])
        clear hB hno hq hpq
        go_wp2_with fail
        refine hcall.mono ?_
        rintro e w' ⟨rfl, hb'⟩
        go_wp2
        go_ret
        exact ⟨ret_int hfin.out.symm, Below.after' HB.out hb' (Nat.le_refl _)⟩
      | false =>
        rw [hpq] at hcall
        have hnx := Lib.hid (findIdx_miss hno hq hpq)
        clear hB hno hq hpq
        go_wp2_with fail
        refine hcall.mono ?_
        rintro e w' ⟨rfl, hb'⟩
        go_wp2
        go_roundw
        case rel => exact ⟨i + 1, by omega, by go_num, hnx.out, Below.after' HB.out hb' (Nat.le_refl _)⟩
        case measure => simp [intOf]; omega
    · have hfin := Lib.hid (show Ma.place p xs = -1 by
        rw [List.take_of_length_le (by omega)] at hno
        unfold Ma.place; rw [hno])
      clear hno
      go_wp2
      go_ret
      exact ⟨ret_int hfin.out.symm, hB⟩

/-- A header's value. -/
def Ma.get (l : List Pr) (name : List UInt8) : Option (List UInt8) := (l.find? (Ma.is name)).map (·.2)

set_option maxHeartbeats 4000000 in
set_option maxRecDepth 100000 in
theorem get_any (A : Option Addr) (c : Nat) (xs : List Pr) (name : List UInt8) (w : World) (hx : Prs w A c xs) (hn : xs.length ≤ 1000000) (h1 : ∀ p ∈ xs, p.1.length ≤ 140737488355328) (h2 : name.length ≤ 140737488355328) :
    Calls Try.prog 19 #[.slice A xs.length c, .string (bs name)] w fun e w' => e = .returned (.tuple #[.string (bs ((Ma.get xs name).getD [])), .bool (Ma.get xs name).isSome]) ∧ Below w.heap.size w w' := by
  have HX := Lib.hid hx
  have HL := Lib.hid h1
  clear hx h1
  go_enter Try.func19, Try.ntmps19
  go_wp2_with fail
  have k0 := (Below.refl w.heap.size w).alloc (Nat.le_refl _) (.cells #[.string (bs name)] 9)
  have hs' : w.heap.size < (w.alloc (.cells #[.string (bs name)] 9)).heap.size := by simp
  have c0 : (w.alloc (.cells #[.string (bs name)] 9)).cell? ⟨w.heap.size, 0, none⟩ = some (.string (bs name)) := (blk_facts (heap_alloc_new w _)).1 0
  have HI := Lib.hid (indexFunc_any (Ma.is name) #[.pointer (some ⟨w.heap.size, 0, none⟩)] A c xs _ (HX.out.grow k0) hn (fun W x hxx hb => get1_at name w.heap.size _ hs' c0 h2 W x (HL.out x hxx) hb))
  generalize w.alloc (.cells #[.string (bs name)] 9) = W at *
  have K0 := Lib.hid k0
  clear k0 c0 hs'
  refine HI.out.mono ?_
  rintro e w1 ⟨rfl, hb1⟩
  have HB := Lib.hid (Below.after' K0.out hb1 (Nat.le_refl _))
  clear hb1 HI
  cases hf : xs.findIdx? (Ma.is name) with
  | none =>
    have e1 : Ma.place (Ma.is name) xs = -1 := by unfold Ma.place; rw [hf]
    have e2 := Lib.hid (show Ma.get xs name = none by unfold Ma.get; rw [find_none hf]; rfl)
    rw [e1]
    clear hf e1
    go_wp2
    go_ret2
    exact ⟨by rw [e2.out]; rfl, HB.out⟩
  | some i =>
    have e1 : Ma.place (Ma.is name) xs = (i : Int) := by unfold Ma.place; rw [hf]
    obtain ⟨q, hq, hfq⟩ := find_some hf
    have e2 := Lib.hid (show Ma.get xs name = some q.2 by unfold Ma.get; rw [hfq]; rfl)
    have hi : i < xs.length := (List.getElem?_eq_some_iff.1 hq).1
    obtain ⟨g, o, q', rfl, hg, hq', c1, c2⟩ := (HX.out.grow HB.out).at_ hi
    obtain rfl : q = q' := by rw [hq] at hq'; cases hq'; rfl
    rw [e1]
    clear hf e1 hfq hq hq' c1
    go_wp2
    go_ret2
    exact ⟨by rw [e2.out]; rfl, HB.out⟩
end Go.Proofs.Ytbjhnfemlpbchaa
