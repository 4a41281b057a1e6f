/- The walks of layer 11: a number of so many digits, put behind a row. -/
import Derived.Test.YtbcanoknddpmeaaDoorWalksF
import Derived.Test.YtbcanoknddpmeaaDoorAppend
namespace Go.Proofs.YtbcanoknddpmeaaDoor
open Go.RowKit

theorem infoByte : (Tryd.prog.info? 5).map (fun i => (i.zero, i.size, i.bytes)) = some (some (.int .u8 0), 1, 1) := by kernel_rfl
def RowPost (w : World) (o : Option Nat) (base : Nat) (l : List UInt8) (e : Ending) (w' : World) : Prop :=
  ∃ v, e = .returned v ∧ BRow w' base 5 v l ∧ Hop w w' o v.ownBlock
theorem rep_snoc (l : List UInt8) (k : Nat) : l ++ List.replicate (k + 1) 48 = (l ++ List.replicate k 48) ++ [48] := by rw [List.replicate_succ', List.append_assoc]

set_option maxHeartbeats 1000000 in
theorem digits_any (bv : Value) (xs ds : List UInt8) (n many : Int) (m base : Nat) (w : World) (hown : BRow w base 5 bv xs)
    (hI : Calls Tryd.prog 28 #[.int .i64 n] w fun e w' => e = .returned (.string (bs ds)) ∧ Below w.heap.size w w')
    (hm1 : many ≤ ds.length + m) (hm2 : ds.length + m ≤ many) (hds : ds.length ≤ 100) (hms : m ≤ 100) (hxs : xs.length ≤ 1000) (hbase : base ≤ w.heap.size) :
    Calls Tryd.prog 24 #[bv, .int .i64 n, .int .i64 many] w (RowPost w bv.ownBlock base (xs ++ List.replicate m 48 ++ ds)) := by
  obtain ⟨i0, hi, hz0, hz1, hz2⟩ := info_parts infoByte
  have hIh := Lib.hid hI
  clear hI
  have hOw := Lib.hid hown
  clear hown
  have hsz : (bs ds).size = ds.length := bs_size ds
  go_enter Tryd.func24, Tryd.ntmps24
  go_wp2_with (go_at_call 28; refine hIh.out.mono ?_; rintro e w1 ⟨rfl, hb⟩)
  have hB := Lib.hid hb
  have hz := hb.size
  clear hb
  go_loopw [0, 14] (fun v i wr => ∃ k : Nat, k ≤ m ∧ i = .int .i64 k ∧ BRow wr base 5 v (xs ++ List.replicate k 48) ∧ Hop w wr bv.ownBlock v.ownBlock) (fun _ i _ => m - (intOf i).toNat)
  case atStart => exact ⟨0, Nat.zero_le _, rfl, by simpa using hOw.out.grow hB.out, (Hop.refl w _).grow hB.out⟩
  case round =>
    obtain ⟨k, hk, rfl, hrow, hhop⟩ := hrel
    have hrow' := Lib.hid hrow
    clear hrow
    have hsz2 := hhop.1.size
    have hhop' := Lib.hid hhop
    clear hhop
    by_cases hlt : k < m
    · go_wp2_with (at_builtin; (refine wpList_append_row rfl _ _ 50 50 rfl base 5 i0 (.int .u8 0) 1 1 Tryd.underlying50 hi hz0 hz1 hz2 rfl u0 _ _ rfl (hrow'.out.grow ((Below.refl _ _).alloc (Nat.le_refl _) _)) (.slice (some ⟨wr.heap.size, 0, none⟩) 1 1) 1 [.int .u8 48] rfl ?_ ?c0 ?c1 ?c2 ?c3); intro v' w' hown' hhop2)
      case c0 => exact src_block Tryd.underlying50 1 1 1 _ #[.int .u8 48] _ _ (heap_alloc_new _ _) rfl (by simp [Value.oneCell'])
      case c1 => simp [maxLen]; omega
      case c2 => simp; omega
      case c3 => simp; omega
      refine ⟨⟨k + 1, by omega, by go_num, ?_, (hhop'.out.grow ((Below.refl _ _).alloc (Nat.le_refl _) _)).trans hhop2⟩, by simp [intOf]; omega⟩
      rw [rep_snoc]
      exact BRow.app (m := [48]) hown' (by simp)
    · go_wp2_with (at_builtin; (refine wpList_append_row rfl _ _ 50 9 rfl base 5 i0 (.int .u8 0) 1 1 Tryd.underlying50 hi hz0 hz1 hz2 rfl u0 _ _ rfl hrow'.out (.string (bs ds)) ds.length (cb ds) rfl ?_ (src_string Tryd.underlying9 ds) ?c4 ?c5 ?c6); intro v' w' hown' hhop2)
      case c4 => simp [maxLen]; omega
      case c5 => simp; omega
      case c6 => omega
      have hkm : k = m := by omega
      subst hkm
      go_ret
      exact ⟨v', rfl, BRow.app hown' rfl, hhop'.out.trans hhop2⟩
end Go.Proofs.YtbcanoknddpmeaaDoor
