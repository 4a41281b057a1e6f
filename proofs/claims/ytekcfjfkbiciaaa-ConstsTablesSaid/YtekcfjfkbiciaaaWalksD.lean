/- The walks of layer 19: is a value there, and is it less, by the document. -/
import Derived.Test.YtekcfjfkbiciaaaEq
import Derived.Sort.Walk0
namespace Go.Proofs.Ytekcfjfkbiciaaa
open Go.RowKit

set_option maxHeartbeats 4000000 in
theorem has_any (A : Option Addr) (c : Nat) (l : List Pv) (v : Pv) (w : World) (hx : Vals w A c l) (hn : l.length ≤ 140737488355328) :
    Calls Try.prog 35 #[.slice A l.length c, vv v] w fun e w' => e = .returned (.bool (decide (v ∈ l))) ∧ Below w.heap.size w w' := by
  have HX := Lib.hid hx
  have HE := Lib.hid (fun a x => eq_val a v x)
  have k0 := Lib.hid ((Below.refl w.heap.size w).alloc (Nat.le_refl _) (.cells #[.int .i64 v.tag, .string (bs v.text), .int .u64 v.bits, .string (bs v.cls), .string (bs v.name), .string (bs v.desc)] 25))
  have q0 := Lib.hid (vbox_new w v)
  clear hx
  unfold vv at HE ⊢
  go_enter Try.func35, Try.ntmps35
  go_wp2_with fail
  generalize w.alloc (.cells #[.int .i64 v.tag, .string (bs v.text), .int .u64 v.bits, .string (bs v.cls), .string (bs v.name), .string (bs v.desc)] 25) = W at k0 q0 ⊢
  go_loopw [9] (fun u wr => ∃ i : Nat, i ≤ l.length ∧ u = .int .i64 i ∧ v ∉ l.take i ∧ Below W.heap.size W wr) (fun u _ => l.length - (intOf u).toNat)
  case atStart => exact ⟨0, Nat.zero_le _, rfl, by simp, Below.refl _ _⟩
  case round =>
    obtain ⟨i, hil, rfl, hall, hB⟩ := hrel
    have HB := Lib.hid (k0.out.trans (hB.mono k0.out.size))
    have HB' := Lib.hid hB
    have hq := q0.out.keep hB q0.out.lt
    by_cases hi : i < l.length
    · obtain ⟨g, o, x, rfl, hg, hv, c0, c1, c2, c3, c4, c5⟩ := (HX.out.grow HB.out).at_ hi
      have p1 : decide ((i : Int) < (l.length : Int)) = true := decide_eq_true (by omega)
      have p2 : decide (i < l.length) = true := decide_eq_true hi
      have HF := Lib.hid hv
      have HA := Lib.hid hall
      have hqs := hq.lt
      have k1 := (Below.refl wr.heap.size wr).alloc (Nat.le_refl _) (.cells #[.int .i64 x.tag, .string (bs x.text), .int .u64 x.bits, .string (bs x.cls), .string (bs x.name), .string (bs x.desc)] 25)
      obtain ⟨d0, d1, d2, d3, d4, d5⟩ := hq.at_
      have HC := Lib.hid (HB.out.trans (k1.mono HB.out.size))
      have HC' := Lib.hid (HB'.out.trans (k1.mono HB'.out.size))
      clear hall hB hv hq k1
      by_cases e : x = v
      · have he := fun y => (HE.out x y).trans (by rw [decide_eq_true e])
        have HS := Lib.hid (show decide (v ∈ l) = true from decide_eq_true (e ▸ List.mem_of_getElem? HF.out))
        clear e
        go_wp2
        go_ret
        exact ⟨by rw [HS.out]; rfl, HC.out⟩
      · have he := fun y => (HE.out x y).trans (by rw [decide_eq_false e])
        have HS := Lib.hid (show v ∉ l.take (i + 1) by
          obtain ⟨h1, h2⟩ := List.getElem?_eq_some_iff.1 HF.out
          rw [List.take_succ_eq_append_getElem h1, h2, List.mem_append, List.mem_singleton]
          rintro (h | h)
          · exact HA.out h
          · exact e h.symm)
        clear e
        go_wp2
        go_roundw
        case rel => exact ⟨i + 1, by omega, by go_num, HS.out, HC'.out⟩
        case measure => simp [intOf]; omega
    · obtain rfl : i = l.length := by omega
      have p1 : decide ((l.length : Int) < (l.length : Int)) = false := decide_eq_false (by omega)
      have p2 : decide (l.length < l.length) = false := decide_eq_false (by omega)
      rw [List.take_length] at hall
      have HA := Lib.hid (show decide (v ∈ l) = false from decide_eq_false hall)
      clear hall hB hq
      go_wp2
      go_ret
      exact ⟨by rw [HA.out]; rfl, HB.out⟩

def Pv.ltB (a b : Pv) : Bool :=
  if a.tag ≠ b.tag then decide (a.tag < b.tag)
  else if a.text ≠ b.text then decide (a.text < b.text)
  else if a.bits ≠ b.bits then decide (a.bits < b.bits)
  else if a.cls ≠ b.cls then decide (a.cls < b.cls)
  else if a.name ≠ b.name then decide (a.name < b.name)
  else decide (a.desc < b.desc)
theorem Pv.ltB_eq (a b : Pv) : Pv.ltB a b = decide (Pv.lt a b) := by
  unfold Pv.ltB
  rw [Bool.eq_iff_iff, decide_eq_true_iff]
  unfold Pv.lt lexL Pv.key
  simp only
  have ht := fun (h : a.tag ≠ b.tag) => h
  by_cases h0 : a.tag = b.tag
  · by_cases h1 : a.text = b.text
    · by_cases h2 : a.bits = b.bits
      · by_cases h3 : a.cls = b.cls
        · by_cases h4 : a.name = b.name
          · simp [h0, h1, h2, h3, h4, List.lt_irrefl]
          · simp [h0, h1, h2, h3, h4, List.lt_irrefl]
        · simp [h0, h1, h2, h3, List.lt_irrefl]
      · simp [h0, h1, h2, List.lt_irrefl]
    · simp [h0, h1, List.lt_irrefl]
  · simp [h0]
theorem bne_nat (a b : Nat) : ((a : Int) != (b : Int)) = (a != b) := by
  rw [Bool.eq_iff_iff, bne_iff_ne, bne_iff_ne]
  omega
theorem bne_txt (a b : List UInt8) : (!(bs a).toList == (bs b).toList) = (a != b) := by
  rw [bs_list, bs_list]; rfl
theorem bless_txt (a b : List UInt8) : Op.bytesLess (bs a).toList (bs b).toList = decide (a < b) := by
  rw [bs_list, bs_list, bytesLess_eq]
set_option maxHeartbeats 4000000 in
theorem less_any (a b : Pv) (w : World) : Calls Try.prog 47 #[vv a, vv b] w fun e w' => e = .returned (.bool (decide (Pv.lt a b))) ∧ Below w.heap.size w w' := by
  rw [← Pv.ltB_eq]
  have k0 := Lib.hid (Below.alloc' ((Below.refl w.heap.size w).alloc (Nat.le_refl _) (.cells #[.int .i64 a.tag, .string (bs a.text), .int .u64 a.bits, .string (bs a.cls), .string (bs a.name), .string (bs a.desc)] 25)) (Nat.le_refl _) (.cells #[.int .i64 b.tag, .string (bs b.text), .int .u64 b.bits, .string (bs b.cls), .string (bs b.name), .string (bs b.desc)] 25))
  unfold vv
  go_enter Try.func47, Try.ntmps47
  go_wp2
  all_goals (go_ret; refine ⟨ret_bool ?_, k0.out⟩)
  all_goals (simp only [bne_nat, bne_txt, bne_iff_ne, bne_eq_false_iff_eq] at *; simp_all [Pv.ltB, bless_txt])
end Go.Proofs.Ytekcfjfkbiciaaa
