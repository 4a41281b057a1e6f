/- The walks of layer 14: folds. -/
import Derived.Test.YtbjhnfemlpbchaaPlainB
import Derived.Test.YtbjhnfemlpbchaaWalksA
import Derived.Test.YtbjhnfemlpbchaaStrs
import Derived.Laws.OwnMore
namespace Go.Proofs.Ytbjhnfemlpbchaa
open Go.RowKit

theorem infoStr : (Try.prog.info? 9).map (fun i => (i.zero, i.size, i.bytes)) = some (some (.string ⟨#[]⟩), 1, 16) := by kernel_rfl
/-- A row of texts of the call's own. -/
def TRow (w : World) (base : Nat) (v : Value) (xs : List (List UInt8)) : Prop := SRow w base 9 v xs
theorem TRow.one (w : World) (base : Nat) (h : base ≤ w.heap.size) (x : List UInt8) : TRow (w.alloc (.cells #[.string (bs x)] 9)) base (.slice (some ⟨w.heap.size, 0, none⟩) 1 1) [x] := by
  have := World.ownsRow_lit (base := base) (e := 9) (size := 1) w #[.string (bs x)] 1 h (by unfold maxLen; omega) rfl
  exact this
theorem wpList_appS {w : World} {ops : Array Oper} {rest : List Oper} {o : Oper} {a : Act} {Q : Exit → Act → World → Prop} (hgd : o.guard = none) (s x : Operand)
    (ho : o.op = .call { callee := .builtin .append, args := #[s, x], argTypes := #[38, 38] })
    (base : Nat) (v : Value) (xs : List (List UInt8)) (hv : a.eval s = v) (hown : TRow w base v xs) (B : Nat) (n : List UInt8) (t : TypeId) (fr : Nat × Nat) (hX : a.eval x = .slice (some ⟨B, 0, none⟩) 1 1)
    (hb : w.heap[B]? = some (.cells #[.string (bs n)] t fr)) (hn : xs.length ≤ 1000000) (hbase : base ≤ w.heap.size)
    (h : ∀ v' w', TRow w' base v' (xs ++ [n]) → Hop w w' v.ownBlock v'.ownBlock → wpList Try.prog ops Q rest (a.put o.dst v') w') : wpList Try.prog ops Q (o :: rest) a w := by
  obtain ⟨i0, hi, hz0, hz1, hz2⟩ := info_parts infoStr
  refine wpList_append_row hgd s x 38 38 ho base 9 i0 (.string ⟨#[]⟩) 1 16 Try.underlying38 hi hz0 hz1 hz2 rfl v _ _ hv hown _ 1 [.string (bs n)] hX (fun v' w' h1 h2 => h v' w' (SRow.app (ys := [n]) h1 rfl) h2) ?_ ?_ ?_ hbase
  · exact src_block Try.underlying38 1 1 1 _ #[.string (bs n)] _ _ hb rfl (by simp [Value.oneCell'])
  · unfold maxLen; omega
  · omega

set_option maxHeartbeats 8000000 in
set_option maxRecDepth 100000 in
theorem rfold_any (l : List UInt8) (w : World) (hl : l.length ≤ 1000000) :
    Calls Try.prog 16 #[.string (bs l)] w fun e w' => ∃ v, e = .returned v ∧ TRow w' w.heap.size v (Ma.fold l) ∧ Below w.heap.size w w' := by
  have hzl := bs_size l
  by_cases h72 : l.length ≤ 72
  · have q : decide (l.length ≤ 72) = true := decide_eq_true h72
    have q' : decide ((l.length : Int) ≤ 72) = true := decide_eq_true (by omega)
    have hfin := Lib.hid (show Ma.fold l = [l] from if_pos h72)
    clear h72
    go_enter Try.func16, Try.ntmps16
    go_wp2
    go_ret
    exact ⟨_, rfl, by rw [hfin.out]; exact TRow.one _ _ (Nat.le_refl _) _, (Below.refl _ _).alloc (Nat.le_refl _) _⟩
  · have q : decide (l.length ≤ 72) = false := decide_eq_false h72
    have q' : decide ((l.length : Int) ≤ 72) = false := decide_eq_false (by omega)
    have hfin := Lib.hid (Ma.fold_long h72)
    go_enter Try.func16, Try.ntmps16
    go_wp2_with fail
    have ex1 := Lib.hid (show (bs l).extract 0 72 = bs (l.take 72) by rw [bs_extract, List.drop_zero])
    have ex2 := Lib.hid (show (bs l).extract 72 l.length = bs (l.drop 72) by rw [bs_extract, List.take_of_length_le (by rw [List.length_drop]; omega)])
    go_loopg [3, 4] l.length (fun g v u wr => ∃ r xs, r.length ≤ g ∧ r.length ≤ l.length ∧ u = .string (bs r) ∧ TRow wr w.heap.size v xs ∧ xs.length + r.length ≤ l.length ∧ xs ++ Ma.more r = Ma.fold l ∧ Below w.heap.size w wr)
    case atStart =>
      rw [ex1.out, ex2.out]
      exact ⟨l.drop 72, [l.take 72], by rw [List.length_drop]; omega, by rw [List.length_drop]; omega, rfl, TRow.one _ _ (Nat.le_refl _) _, by rw [List.length_drop]; simp; omega, hfin.out.symm, (Below.refl _ _).alloc (Nat.le_refl _) _⟩
    case round =>
      obtain ⟨r, xs, hrg, hrl, rfl, hrow, hxl, hE, hB⟩ := hrel
      have hzr := bs_size r
      have HB := Lib.hid hB
      have HO := Lib.hid hrow
      have HE := Lib.hid hE
      have hsz := hB.size
      clear hB hrow hE
      by_cases hr0 : r = []
      · subst hr0
        have q3 : (bs []).toList = [] := bs_list []
        rw [Ma.more_nil, List.append_nil] at HE
        go_wp2
        go_ret
        exact ⟨_, rfl, by rw [← HE.out]; exact HO.out, HB.out⟩
      · have q3 : (bs r).toList.isEmpty = false := by rw [bs_list]; cases r with | nil => exact absurd rfl hr0 | cons a b => rfl
        have hst := Lib.hid (Ma.more_step hr0)
        have hmin : (min (r.length : Int) 71).toNat = min r.length 71 := by omega
        have hx1 := Lib.hid (show (bs r).extract 0 (min r.length 71) = bs (r.take 71) by
          rw [bs_extract, List.drop_zero, Nat.sub_zero]
          congr 1
          rw [Nat.min_comm, List.take_eq_take_iff]; omega)
        have hx2 := Lib.hid (show (bs r).extract (min r.length 71) r.length = bs (r.drop 71) by
          rw [bs_extract]
          congr 1
          by_cases h : r.length ≤ 71
          · rw [List.drop_of_length_le (by omega), List.drop_of_length_le (by omega), List.take_nil]
          · rw [show min r.length 71 = 71 from by omega, List.take_of_length_le (by rw [List.length_drop]; exact Nat.le_refl _)])
        have hpos : 0 < r.length := List.length_pos_iff.2 hr0
        have hx3 := Lib.hid (show (⟨#[32]⟩ : ByteArray) ++ (bs r).extract 0 (min r.length 71) = bs (32 :: r.take 71) by rw [hx1.out, show (⟨#[32]⟩ : ByteArray) = bs [32] from rfl, bs_append]; rfl)
        have hE2 := Lib.hid (show (xs ++ [32 :: r.take 71]) ++ Ma.more (r.drop 71) = Ma.fold l by rw [← HE.out, hst.out, List.append_assoc]; rfl)
        clear hr0
        go_wp2_with (at_builtin; refine wpList_appS rfl _ _ rfl w.heap.size u3 _ rfl (SRow.grow HO.out ((Below.refl _ _).alloc (Nat.le_refl _) _)) wr.heap.size (32 :: r.take 71) 9 (0, 0) rfl (by rw [← hx3.out]; exact heap_alloc_new _ _) (by omega) (by simp; omega) ?_)
        intro v' w1 hown1 hhop1
        have hR1 := Lib.hid hown1
        have HB1 := Lib.hid (HB.out.alloc hsz (.cells #[.string ((⟨#[32]⟩ : ByteArray) ++ (bs r).extract 0 (min r.length 71))] 9))
        have HB2 := Lib.hid (HB1.out.trans (hhop1.below HB1.out.size (fun k e => (World.ownsRow.lt HO.out k e).1)))
        clear hown1 hhop1
        go_wp2
        go_roundg (r.length - min r.length 71)
        case measure => omega
        case rel => exact ⟨r.drop 71, _, by rw [List.length_drop]; omega, by rw [List.length_drop]; omega, by rw [hx2.out], hR1.out, by rw [List.length_append, List.length_drop]; simp; omega, hE2.out, HB2.out⟩
end Go.Proofs.Ytbjhnfemlpbchaa
