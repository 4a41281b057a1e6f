/- The walk of layer 35's words of numbers. -/
import Derived.Test.YtmidabbfjciogaaDoorPlain
namespace Go.Proofs.YtmidabbfjciogaaDoor
open Go.RowKit

theorem infoStr : (Tryd.prog.info? 9).map (fun i => (i.zero, i.size, i.bytes)) = some (some (.string ⟨#[]⟩), 1, 16) := by kernel_rfl
/-- Words of numbers. -/
def Li.ints (ns : List Int) : List UInt8 := Li.line (ns.map Lib.itoa)
theorem ints_len {ns : List Int} (h : ∀ x ∈ ns, I64 x) : (Li.ints ns).length ≤ ns.length * 21 := by
  have := line_len 20 (ns.map Lib.itoa) (fun x hx => by
    obtain ⟨y, hy, rfl⟩ := List.mem_map.1 hx
    exact itoa_len (h y hy))
  rwa [List.length_map] at this
theorem take_snocI {α : Type} (l : List α) (i : Nat) (x : α) (h : l[i]? = some x) : l.take (i + 1) = l.take i ++ [x] := by
  obtain ⟨h1, rfl⟩ := List.getElem?_eq_some_iff.1 h
  exact List.take_succ_eq_append_getElem h1

set_option maxHeartbeats 4000000 in
set_option maxRecDepth 100000 in
theorem ints_any (ns : List Int) (bk o c : Nat) (w : World) (hcells : ∀ (j : Nat) x, ns[j]? = some x → w.cell? ⟨bk, o + j, none⟩ = some (.int .i64 x)) (hbk : bk < w.heap.size) (hcap : ns.length ≤ c) (hI : ∀ x ∈ ns, I64 x) (hn : ns.length ≤ 1000000) (ht : TabP w) :
    Calls Tryd.prog 16 #[.slice (some ⟨bk, o, none⟩) ns.length c] w fun e w' => e = .returned (.string (bs (Li.ints ns))) ∧ Below w.heap.size w w' := by
  obtain ⟨i0, hi, hz0, hz1, hz2⟩ := info_parts infoStr
  have HC := Lib.hid hcells
  have HI := Lib.hid hI
  have HT := Lib.hid ht
  clear hcells hI ht
  go_enter Tryd.func16, Tryd.ntmps16
  go_wp2_with fail
  go_loopw [3, 8] (fun v u wr => ∃ i : Nat, i ≤ ns.length ∧ u = .int .i64 i ∧ SRow wr w.heap.size 9 v ((ns.map Lib.itoa).take i) ∧ Below w.heap.size w wr) (fun _ u _ => ns.length - (intOf u).toNat)
  case atStart => exact ⟨0, Nat.zero_le _, rfl, SRow.nil _ _ _, Below.refl _ _⟩
  case round =>
    obtain ⟨i, hil, rfl, hrow, hB⟩ := hrel
    have hrow' := Lib.hid hrow
    have hB' := Lib.hid hB
    by_cases h1 : i < ns.length
    · have hget := List.getElem?_eq_getElem h1
      have hcell : wr.cell? ⟨bk, o + i, none⟩ = some (.int .i64 ns[i]) := by rw [World.cell?_of_block (hB.block bk hbk)]; exact HC.out i _ hget
      have hx := HI.out _ (List.mem_of_getElem? hget)
      have hsn := Lib.hid (take_snocI (ns.map Lib.itoa) i (Lib.itoa ns[i]) (by rw [List.getElem?_map, hget]; rfl))
      have hlt := Lib.hid (show ((ns.map Lib.itoa).take i).length = i by rw [List.length_take, List.length_map]; omega)
      generalize ns[i] = x at *
      have hIt := Lib.hid (itoa_any x wr hx (tab_below HT.out hB))
      have hbk2 : bk < wr.heap.size := Nat.lt_of_lt_of_le hbk hB.size
      have hzB := hB.size
      clear hrow hB hget
      go_wp2_with fail
      refine hIt.out.mono ?_
      rintro e w1 ⟨rfl, hb⟩
      have hb' := Lib.hid hb
      have hz1' := hb.size
      clear hb
      go_wp2_with (at_builtin; (refine wpList_append_row rfl _ _ 22 22 rfl w.heap.size 9 i0 (.string ⟨#[]⟩) 1 16 Tryd.underlying22 hi hz0 hz1 hz2 rfl u3 _ _ rfl ((hrow'.out.grow hb'.out).grow ((Below.refl _ _).alloc (Nat.le_refl _) _)) (.slice (some ⟨w1.heap.size, 0, none⟩) 1 1) 1 [.string (bs (Lib.itoa x))] rfl ?_ ?c0 ?c1 ?c2 ?c3))
      case c0 => exact src_block Tryd.underlying22 1 1 1 _ #[.string (bs (Lib.itoa x))] _ _ (heap_alloc_new _ _) rfl (by simp [Value.oneCell'])
      case c1 => rw [hlt.out]; unfold maxLen; omega
      case c2 => rw [hlt.out]; omega
      case c3 => rw [World.size_alloc]; omega
      intro v' w2 hown hhop
      have hown' := Lib.hid (SRow.app (xs := (ns.map Lib.itoa).take i) (ys := [Lib.itoa x]) hown (by rw [hlt.out]; rfl))
      have hhop' := Lib.hid hhop
      clear hown hhop
      go_wp2
      refine ⟨⟨i + 1, h1, rfl, by rw [hsn.out]; exact hown'.out, ?_⟩, ?_⟩
      · refine ((hB'.out.trans (hb'.out.mono hB'.out.size)).alloc (Nat.le_trans hB'.out.size hb'.out.size) _).trans (hhop'.out.below (by rw [World.size_alloc]; omega) (fun k e => (hrow'.out.lt k e).1))
      · show ns.length - ((i : Int) + 1).toNat < ns.length - (i : Int).toNat
        omega
    · have hfin : (ns.map Lib.itoa).take i = ns.map Lib.itoa := List.take_of_length_le (by rw [List.length_map]; omega)
      rw [hfin] at hrow
      have hlen := ints_len HI.out
      have hL := Lib.hid (line_row hrow (by rw [List.length_map]; omega) (show (Li.ints ns).length ≤ 1000000000 by omega))
      clear hrow hB hlen
      go_wp2_with fail
      refine hL.out.mono ?_
      rintro e w1 ⟨rfl, hb⟩
      have hb' := Lib.hid hb
      clear hb
      go_wp2
      go_ret
      exact ⟨rfl, hB'.out.trans (hb'.out.mono hB'.out.size)⟩
end Go.Proofs.YtmidabbfjciogaaDoor
