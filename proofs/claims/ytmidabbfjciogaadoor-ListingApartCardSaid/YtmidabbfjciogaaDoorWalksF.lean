/- The walk of layer 35's words of a value. -/
import Derived.Test.YtmidabbfjciogaaDoorWalksE
namespace Go.Proofs.YtmidabbfjciogaaDoor
open Go.RowKit

/-- A line of a new block's texts. -/
theorem line_blk {g : Nat} {w : World} {C : Array Value} {e : TypeId} {fr : Nat × Nat} (hg : w.heap[g]? = some (.cells C e fr)) (xs : List (List UInt8)) (n : Nat) (hC : C.toList = sc xs) (hn : n = xs.length) (hN : xs.length ≤ 1000000000) (hlen : (Li.line xs).length ≤ 1000000000) :
    Calls Tryd.prog 14 #[.slice (some ⟨g, 0, none⟩) n n] w fun e w' => e = .returned (.string (bs (Li.line xs))) ∧ Below w.heap.size w w' := by
  subst hn
  refine line_any g 0 xs.length xs w (fun j x hx => ?_) (Array.getElem?_eq_some_iff.1 hg).1 (Nat.le_refl _) hN hlen
  rw [Nat.zero_add, Lib.cell_of_heap hg, ← Array.getElem?_toList, hC]
  exact sc_get hx

structure Li.V where
  tag : Int
  text : List UInt8
  bits : Nat
  cls : List UInt8
  name : List UInt8
  desc : List UInt8
def Li.V.ok (v : Li.V) : Prop := I64 v.tag ∧ v.bits < 18446744073709551616 ∧ v.text.length ≤ 10000000 ∧ v.cls.length ≤ 10000000 ∧ v.name.length ≤ 10000000 ∧ v.desc.length ≤ 10000000
def Li.V.val (v : Li.V) : Value := .agg #[.int .i64 v.tag, .string (bs v.text), .int .u64 v.bits, .string (bs v.cls), .string (bs v.name), .string (bs v.desc)]
/-- Words of a value. -/
def Li.value (v : Li.V) : List UInt8 :=
  if v.tag = 1 ∨ v.tag = 7 ∨ v.tag = 8 then Li.line [Lib.itoa v.tag, Li.or v.text]
  else if v.tag = 3 ∨ v.tag = 4 ∨ v.tag = 5 ∨ v.tag = 6 then Li.line [Lib.itoa v.tag, Lib.decDigits v.bits]
  else if v.tag = 12 then Li.line [Lib.itoa v.tag, Li.or v.name, Li.or v.desc]
  else if v.tag = 9 ∨ v.tag = 10 ∨ v.tag = 11 then Li.line [Lib.itoa v.tag, Li.or v.cls, Li.or v.name, Li.or v.desc]
  else Lib.itoa v.tag
theorem line4_len (m : Nat) (xs : List (List UInt8)) (h : ∀ x ∈ xs, x.length ≤ 30000001) (hn : xs.length ≤ 4) : (Li.line xs).length ≤ 1000000000 := by
  have := line_len 30000001 xs h
  have h2 : xs.length * (30000001 + 1) ≤ 4 * (30000001 + 1) := Nat.mul_le_mul_right _ hn
  omega

set_option maxHeartbeats 8000000 in
set_option maxRecDepth 100000 in
/-- A value with two words, the second a text. -/
theorem value_text (tag : Int) (text cls name desc : List UInt8) (bits : Nat) (w : World) (hok : Li.V.ok ⟨tag, text, bits, cls, name, desc⟩) (ht : TabP w) (hc : tag = 1 ∨ tag = 7 ∨ tag = 8) :
    Calls Tryd.prog 11 #[.agg #[.int .i64 tag, .string (bs text), .int .u64 bits, .string (bs cls), .string (bs name), .string (bs desc)]] w fun e w' => e = .returned (.string (bs (Li.line [Lib.itoa tag, Li.or text]))) ∧ Below w.heap.size w w' := by
  obtain ⟨h1, h2, h3, h4, h5, h6⟩ := hok
  dsimp only at h1 h2 h3 h4 h5 h6
  have HT := Lib.hid ht
  have HI := Lib.hid h1
  have hln := Lib.hid (line4_len 0 [Lib.itoa tag, Li.or text] (fun x hx => by
    simp at hx
    rcases hx with rfl | rfl
    · have := itoa_len h1; omega
    · have := Li.or_len text; omega) (by simp))
  clear h1 ht
  have hcs : (tag == 1) = true ∨ ((tag == 1) = false ∧ (tag == 7) = true) ∨ ((tag == 1) = false ∧ (tag == 7) = false ∧ (tag == 8) = true) := by simp; omega
  clear hc
  rcases hcs with g1 | ⟨g1, g2⟩ | ⟨g1, g2, g3⟩
  all_goals
    go_enter Tryd.func11, Tryd.ntmps11
    go_wp2_with fail
    have J0 : Below w.heap.size w (w.alloc (.cells #[.int .i64 tag, .string (bs text), .int .u64 bits, .string (bs cls), .string (bs name), .string (bs desc)] 32)) := (Below.refl _ _).alloc (Nat.le_refl _) _
    refine (itoa_any _ _ HI.out (tab_below HT.out J0)).mono ?_
    rintro e w1 ⟨rfl, hb⟩
    have J1 := Lib.hid (Below.after' J0 hb (Nat.le_refl _))
    have q1 := (hb.block _ (by simp)).trans (heap_alloc_new w _)
    obtain ⟨f1, f2⟩ := blk_facts q1
    have z1 : w.heap.size < w1.heap.size := (Array.getElem?_eq_some_iff.1 q1).1
    clear hb q1 J0
    go_wp2_with fail
    refine (or_any text _ (by omega)).mono ?_
    rintro e w2 ⟨rfl, hb⟩
    have J2 := Lib.hid (Below.alloc' (Below.after' J1.out hb (Nat.le_refl _)) (Nat.le_refl _) (.cells #[.string (bs (Lib.itoa tag)), .string (bs (Li.or text))] 9))
    clear hb f1 f2 z1
    go_wp2_with fail
    refine (line_blk (heap_alloc_new _ _) _ _ rfl rfl (by simp) hln.out).mono ?_
    rintro e w3 ⟨rfl, hb⟩
    have J3 := Lib.hid (Below.after' J2.out hb (Nat.le_refl _))
    clear hb
    go_wp2
    go_ret
    exact ⟨rfl, J3.out⟩

set_option maxHeartbeats 8000000 in
set_option maxRecDepth 100000 in
theorem value_bits (tag : Int) (text cls name desc : List UInt8) (bits : Nat) (w : World) (hok : Li.V.ok ⟨tag, text, bits, cls, name, desc⟩) (ht : TabP w) (hc : tag = 3 ∨ tag = 4 ∨ tag = 5 ∨ tag = 6) :
    Calls Tryd.prog 11 #[.agg #[.int .i64 tag, .string (bs text), .int .u64 bits, .string (bs cls), .string (bs name), .string (bs desc)]] w fun e w' => e = .returned (.string (bs (Li.line [Lib.itoa tag, Lib.decDigits bits]))) ∧ Below w.heap.size w w' := by
  obtain ⟨h1, h2, h3, h4, h5, h6⟩ := hok
  dsimp only at h1 h2 h3 h4 h5 h6
  have HT := Lib.hid ht
  have HI := Lib.hid h1
  have hln := Lib.hid (line4_len 0 [Lib.itoa tag, Lib.decDigits bits] (fun x hx => by
    simp at hx
    rcases hx with rfl | rfl
    · have := itoa_len h1; omega
    · rw [Lib.decDigits_length]; have := nDigits_le 19 bits (by omega); omega) (by simp))
  clear h1 ht
  have hcs : ((tag == 1) = false ∧ (tag == 7) = false ∧ (tag == 8) = false ∧ (tag == 3) = true) ∨ ((tag == 1) = false ∧ (tag == 7) = false ∧ (tag == 8) = false ∧ (tag == 3) = false ∧ (tag == 4) = true) ∨ ((tag == 1) = false ∧ (tag == 7) = false ∧ (tag == 8) = false ∧ (tag == 3) = false ∧ (tag == 4) = false ∧ (tag == 5) = true) ∨ ((tag == 1) = false ∧ (tag == 7) = false ∧ (tag == 8) = false ∧ (tag == 3) = false ∧ (tag == 4) = false ∧ (tag == 5) = false ∧ (tag == 6) = true) := by simp; omega
  clear hc
  rcases hcs with ⟨g0, g1, g2, g3⟩ | ⟨g0, g1, g2, g3, g4⟩ | ⟨g0, g1, g2, g3, g4, g5⟩ | ⟨g0, g1, g2, g3, g4, g5, g6⟩
  all_goals
    go_enter Tryd.func11, Tryd.ntmps11
    go_wp2_with fail
    have J0 : Below w.heap.size w (w.alloc (.cells #[.int .i64 tag, .string (bs text), .int .u64 bits, .string (bs cls), .string (bs name), .string (bs desc)] 32)) := (Below.refl _ _).alloc (Nat.le_refl _) _
    refine (itoa_any _ _ HI.out (tab_below HT.out J0)).mono ?_
    rintro e w1 ⟨rfl, hb⟩
    have J1 := Lib.hid (Below.after' J0 hb (Nat.le_refl _))
    have q1 := (hb.block _ (by simp)).trans (heap_alloc_new w _)
    obtain ⟨f1, f2⟩ := blk_facts q1
    have z1 : w.heap.size < w1.heap.size := (Array.getElem?_eq_some_iff.1 q1).1
    clear hb q1 J0
    go_wp2_with fail
    refine (formatUint bits h2 w1 (tab_below HT.out J1.out)).mono ?_
    rintro e w2 ⟨rfl, hb⟩
    have J2 := Lib.hid (Below.alloc' (Below.after' J1.out hb (Nat.le_refl _)) (Nat.le_refl _) (.cells #[.string (bs (Lib.itoa tag)), .string (bs (Lib.decDigits bits))] 9))
    clear hb f1 f2 z1
    go_wp2_with fail
    refine (line_blk (heap_alloc_new _ _) _ _ rfl rfl (by simp) hln.out).mono ?_
    rintro e w3 ⟨rfl, hb⟩
    have J3 := Lib.hid (Below.after' J2.out hb (Nat.le_refl _))
    clear hb
    go_wp2
    go_ret
    exact ⟨rfl, J3.out⟩

set_option maxHeartbeats 8000000 in
set_option maxRecDepth 100000 in
theorem value_none (tag : Int) (text cls name desc : List UInt8) (bits : Nat) (w : World) (hok : Li.V.ok ⟨tag, text, bits, cls, name, desc⟩) (ht : TabP w) (hc : ¬ (tag = 1 ∨ tag = 7 ∨ tag = 8) ∧ ¬ (tag = 3 ∨ tag = 4 ∨ tag = 5 ∨ tag = 6) ∧ tag ≠ 12 ∧ ¬ (tag = 9 ∨ tag = 10 ∨ tag = 11)) :
    Calls Tryd.prog 11 #[.agg #[.int .i64 tag, .string (bs text), .int .u64 bits, .string (bs cls), .string (bs name), .string (bs desc)]] w fun e w' => e = .returned (.string (bs (Lib.itoa tag))) ∧ Below w.heap.size w w' := by
  obtain ⟨h1, h2, h3, h4, h5, h6⟩ := hok
  dsimp only at h1 h2 h3 h4 h5 h6
  have HT := Lib.hid ht
  have HI := Lib.hid h1
  clear h1 ht
  have hcs : (tag == 1) = false ∧ (tag == 7) = false ∧ (tag == 8) = false ∧ (tag == 3) = false ∧ (tag == 4) = false ∧ (tag == 5) = false ∧ (tag == 6) = false ∧ (tag == 12) = false ∧ (tag == 9) = false ∧ (tag == 10) = false ∧ (tag == 11) = false := by simp; omega
  clear hc
  obtain ⟨g0, g1, g2, g3, g4, g5, g6, g7, g8, g9, g10⟩ := hcs
  focus
    go_enter Tryd.func11, Tryd.ntmps11
    go_wp2_with fail
    have J0 : Below w.heap.size w (w.alloc (.cells #[.int .i64 tag, .string (bs text), .int .u64 bits, .string (bs cls), .string (bs name), .string (bs desc)] 32)) := (Below.refl _ _).alloc (Nat.le_refl _) _
    refine (itoa_any _ _ HI.out (tab_below HT.out J0)).mono ?_
    rintro e w1 ⟨rfl, hb⟩
    have J1 := Lib.hid (Below.after' J0 hb (Nat.le_refl _))
    have q1 := (hb.block _ (by simp)).trans (heap_alloc_new w _)
    obtain ⟨f1, f2⟩ := blk_facts q1
    have z1 : w.heap.size < w1.heap.size := (Array.getElem?_eq_some_iff.1 q1).1
    clear hb q1 J0
    go_wp2_with fail
    go_ret
    exact ⟨rfl, J1.out⟩

set_option maxHeartbeats 8000000 in
set_option maxRecDepth 100000 in
theorem value_pair (tag : Int) (text cls name desc : List UInt8) (bits : Nat) (w : World) (hok : Li.V.ok ⟨tag, text, bits, cls, name, desc⟩) (ht : TabP w) (hc : tag = 12) :
    Calls Tryd.prog 11 #[.agg #[.int .i64 tag, .string (bs text), .int .u64 bits, .string (bs cls), .string (bs name), .string (bs desc)]] w fun e w' => e = .returned (.string (bs (Li.line [Lib.itoa tag, Li.or name, Li.or desc]))) ∧ Below w.heap.size w w' := by
  obtain ⟨h1, h2, h3, h4, h5, h6⟩ := hok
  dsimp only at h1 h2 h3 h4 h5 h6
  have HT := Lib.hid ht
  have HI := Lib.hid h1
  have hln := Lib.hid (line4_len 0 [Lib.itoa tag, Li.or name, Li.or desc] (fun x hx => by
    simp at hx
    rcases hx with rfl | rfl | rfl
    · have := itoa_len h1; omega
    · have := Li.or_len name; omega
    · have := Li.or_len desc; omega) (by simp))
  clear h1 ht
  have hcs : (tag == 1) = false ∧ (tag == 7) = false ∧ (tag == 8) = false ∧ (tag == 3) = false ∧ (tag == 4) = false ∧ (tag == 5) = false ∧ (tag == 6) = false ∧ (tag == 12) = true := by simp; omega
  clear hc
  obtain ⟨g0, g1, g2, g3, g4, g5, g6, g7⟩ := hcs
  focus
    go_enter Tryd.func11, Tryd.ntmps11
    go_wp2_with fail
    have J0 : Below w.heap.size w (w.alloc (.cells #[.int .i64 tag, .string (bs text), .int .u64 bits, .string (bs cls), .string (bs name), .string (bs desc)] 32)) := (Below.refl _ _).alloc (Nat.le_refl _) _
    refine (itoa_any _ _ HI.out (tab_below HT.out J0)).mono ?_
    rintro e w1 ⟨rfl, hb⟩
    have J1 := Lib.hid (Below.after' J0 hb (Nat.le_refl _))
    have q1 := (hb.block _ (by simp)).trans (heap_alloc_new w _)
    obtain ⟨f1, f2⟩ := blk_facts q1
    have z1 : w.heap.size < w1.heap.size := (Array.getElem?_eq_some_iff.1 q1).1
    clear hb q1 J0
    go_wp2_with fail
    have z1d : w.heap.size < w1.drew.heap.size := z1
    refine wp_region_ord 10 (by kernel_rfl) (by kernel_rfl) (fun _ _ d _ _ h => by cases d <;> exact h) ?_
    simp only [List.take_succ_cons, List.take_zero, List.drop_succ_cons, List.drop_zero]
    repeat (first | (refine wpLex_skip rfl ?_; simp only [Act.put, List.setIfInBounds_toArray, List.set_cons_zero, List.set_cons_succ]) | (refine wpLex_fix rfl ?_; intro F hF R hR hne K hK; go_big_quiet_op; first | (go_big_quiet_on; clear hne hR R hF F) | (apply Exists.intro; refine ⟨fun g => ?_, ?_⟩; (((first | (rw [GrE.cell g _ _ z1d]; go_simp; first | exact ⟨rfl, rfl⟩ | rfl) | (go_at_call 15; exact GrE.call hR (or_any _ _ (by omega))) | (go_at_call 14; exact GrE.call hR (line_blk (GrE.blk g (hF.out _ _ _ (by decide) (.inr ⟨rfl, rfl, rfl⟩))) [Lib.itoa tag, Li.or name, Li.or desc] _ rfl rfl (by simp) hln.out))))); go_big_quiet_on; clear hne hR R hF F)) | (apply wpLex_blk rfl; (focus (intro x hx; go_simp; exact ⟨rfl, rfl⟩)); intro B hB; simp only [Act.put, blkVal, List.setIfInBounds_toArray, List.set_cons_zero, List.set_cons_succ]))
    refine wpLex_nil ?_
    intro w1 hw1
    have J2 := Lib.hid (Below.after' (Below.drew J1.out) hw1.below (Nat.le_refl _))
    clear hw1
    go_wp2
    go_ret
    exact ⟨rfl, J2.out⟩
end Go.Proofs.YtmidabbfjciogaaDoor
