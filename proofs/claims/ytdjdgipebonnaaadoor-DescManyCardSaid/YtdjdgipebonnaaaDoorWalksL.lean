/- The walk of layer 17's reference: a method's descriptors. -/
import Derived.Test.YtdjdgipebonnaaaDoorWalksK
namespace Go.Proofs.YtdjdgipebonnaaaDoor
open Go.RowKit

theorem bs_tail (l : List UInt8) : (bs l).extract 1 l.length = bs (l.drop 1) := drop_len l 1
theorem params_not {l : List UInt8} (h : l.head? ≠ some 40) : De.params l = none := by unfold De.params; rw [if_neg h]
theorem rest_nil : De.rest [] = none := rfl

set_option maxHeartbeats 16000000 in
set_option maxRecDepth 100000 in
theorem rparams_any (l : List UInt8) (w : World) (hl : l.length ≤ 1000000000) :
    Calls Tryd.prog 22 #[.string (bs l)] w (ParamsRes l w) := by
  obtain ⟨i0, hi, hz0, hz1, hz2⟩ := info_parts infoStr
  have hzl := bs_size l
  cases hL : l with
  | nil =>
    have hz := bs_empty_true
    have hfin := Lib.hid (params_not (l := []) (by simp))
    clear hL
    go_enter Tryd.func22, Tryd.ntmps22
    go_wp2
    go_ret3
    exact ParamsRes.none hfin.out rfl (Below.refl _ _)
  | cons c0 t0 =>
    have hz := bs_empty_false (l := c0 :: t0) (by simp)
    have i0' := fun x => bs_index (c0 :: t0) 0 c0 rfl .i64 0 rfl x
    have hpar0 : De.params (c0 :: t0) = if c0 = 40 then De.rest t0 else none := by unfold De.params; simp
    have hdr : (bs (c0 :: t0)).extract 1 (c0 :: t0).length = bs t0 := drop_len (c0 :: t0) 1
    have hlt : t0.length + 1 = l.length := by rw [hL]; rfl
    rw [← hL] at hpar0 hdr i0' hz ⊢
    clear hL
    by_cases h40 : c0 = 40
    rotate_left
    · have c1 : ((c0.toNat : Int) != 40) = true := by rw [bne_iff_ne]; intro h; exact h40 (UInt8.toNat_inj.1 (by show c0.toNat = 40; omega))
      have hfin := Lib.hid (show De.params l = none by rw [hpar0, if_neg h40])
      clear h40 hpar0 hdr
      go_enter Tryd.func22, Tryd.ntmps22
      go_wp2
      go_ret3
      exact ParamsRes.none hfin.out rfl (Below.refl _ _)
    have c1 : ((c0.toNat : Int) != 40) = false := by rw [h40]; rfl
    have hpar := Lib.hid (show De.params l = De.rest t0 by rw [hpar0, if_pos h40])
    have hl1 : 1 ≤ l.length := by omega
    clear h40 hpar0
    go_enter Tryd.func22, Tryd.ntmps22
    go_wp2_with fail
    go_loopw [5, 6] (fun s v wr => PR l w s v wr) (fun s _ _ => match s with | .string b => b.size | _ => 0)
    case atStart => exact ⟨t0, [], rfl, SRow.nil _ _ _, Below.refl _ _, by rw [hpar.out]; cases De.rest t0 <;> rfl, by rw [List.length_nil]; omega⟩
    case round =>
      obtain ⟨r, acc, rfl, hrow, hB, hp, hlen⟩ := hrel
      have HR := Lib.hid hrow
      have HB := Lib.hid hB
      have HP := Lib.hid hp
      have hzr := bs_size r
      clear hrow hB hp i0' hz c1 hdr
      cases hr : r with
      | nil =>
        have hz := bs_empty_true
        have hfin := Lib.hid (show De.params l = none by rw [HP.out, hr, rest_nil]; rfl)
        clear hr
        go_wp2
        go_ret3
        exact ParamsRes.none hfin.out rfl HB.out
      | cons c t =>
        have hz := bs_empty_false (l := c :: t) (by simp)
        have ic := fun x => bs_index (c :: t) 0 c rfl .i64 0 rfl x
        have hdr : (bs (c :: t)).extract 1 (c :: t).length = bs t := drop_len (c :: t) 1
        have hlr : t.length + 1 = r.length := by rw [hr]; rfl
        have hhd : r.head? = some c := by rw [hr]; rfl
        have htl : r.drop 1 = t := by rw [hr]; rfl
        rw [← hr] at hz ic hdr ⊢
        have hr1 : 1 ≤ r.length := by omega
        clear hr
        by_cases h41 : c = 41
        · have c2 : ((c.toNat : Int) != 41) = false := by rw [h41]; rfl
          have hcl := De.rest_close (r := r) (by rw [hhd, h41])
          rw [htl] at hcl
          have HF := Lib.hid fun w' => rfield_any t w' (by omega)
          have q1 := bs_is t [86]
          clear h41 hhd htl
          by_cases hV : t = [86]
          · have hfin := Lib.hid (show De.params l = some (acc, t) by rw [HP.out, hcl, if_pos (.inl hV)]; simp)
            rw [decide_eq_true hV] at q1
            clear hV hcl
            go_wp2_with fail
            refine wp_region_grow (by kernel_rfl) (by kernel_rfl) ?_
            repeat (go_big_quiet_step (fail))
            refine wpQuiet_nil ?_
            intro g1
            obtain ⟨w1, hb1⟩ := g1
            have HB2 := Lib.hid (Below.after' HB.out hb1 (Nat.le_refl _))
            have HR2 := Lib.hid (HR.out.grow hb1)
            dsimp only
            clear hb1
            go_wp2
            go_ret3
            exact ParamsRes.some hfin.out rfl HR2.out HB2.out
          · rw [decide_eq_false hV] at q1
            cases hf : De.field t
            · have hfin := Lib.hid (show De.params l = none by rw [HP.out, hcl, if_neg (fun h => h.elim hV (fun h => by rw [hf] at h; cases h))]; rfl)
              have hff := Lib.hid hf
              clear hV hcl hf
              go_wp2_with fail
              refine (HF.out _).mono ?_
              rw [hff.out]
              rintro e w1 ⟨rfl, hb⟩
              have HB2 := Lib.hid (Below.after' HB.out hb (Nat.le_refl _))
              clear hb
              go_wp2
              go_ret3
              exact ParamsRes.none hfin.out rfl HB2.out
            · have hfin := Lib.hid (show De.params l = some (acc, t) by rw [HP.out, hcl, if_pos (.inr hf)]; simp)
              have hff := Lib.hid hf
              clear hV hcl hf
              go_wp2_with fail
              refine (HF.out _).mono ?_
              rw [hff.out]
              rintro e w1 ⟨rfl, hb⟩
              have HB2 := Lib.hid (Below.after' HB.out hb (Nat.le_refl _))
              have HR2 := Lib.hid (HR.out.grow hb)
              clear hb
              go_wp2_with fail
              refine wp_region_grow (by kernel_rfl) (by kernel_rfl) ?_
              repeat (go_big_quiet_step (fail))
              refine wpQuiet_nil ?_
              intro g1
              obtain ⟨w1, hb1⟩ := g1
              have HB3 := Lib.hid (Below.after' HB2.out hb1 (Nat.le_refl _))
              have HR3 := Lib.hid (HR2.out.grow hb1)
              dsimp only
              clear hb1
              go_wp2
              go_ret3
              exact ParamsRes.some hfin.out rfl HR3.out HB3.out
        · have c2 : ((c.toNat : Int) != 41) = true := by rw [bne_iff_ne]; intro h; exact h41 (UInt8.toNat_inj.1 (by show c.toNat = 41; omega))
          have h41' : r.head? ≠ some 41 := by rw [hhd]; simpa using h41
          have H41 := Lib.hid h41'
          have HT := Lib.hid (fun n => take_ext r n)
          have HD := Lib.hid (fun n => drop_len r n)
          have HF := Lib.hid fun (n : Nat) w' => rfield_any (r.take n) w' (by rw [List.length_take]; omega)
          clear h41 h41' hhd htl hdr
          obtain ⟨wo, rfl⟩ : ∃ wo : World, wo = wr := ⟨_, rfl⟩
          go_wp2_with fail
          go_loopw [7] (fun u wr => ∃ n : Nat, 1 ≤ n ∧ n ≤ r.length + 1 ∧ u = .int .i64 n ∧ Below wo.heap.size wo wr ∧ ∀ m, 1 ≤ m → m < n → De.field (r.take m) = false) (fun u _ => r.length + 1 - (intOf u).toNat)
          case atStart => exact ⟨1, Nat.le_refl _, by omega, rfl, Below.refl _ _, fun m h1 h2 => absurd h2 (by omega)⟩
          case round =>
            obtain ⟨n, hn1, hn2, rfl, hB, hno⟩ := hrel
            have HBi := Lib.hid (Below.after' HB.out hB (Nat.le_refl _))
            have HBo := Lib.hid hB
            have HRi := Lib.hid (HR.out.grow hB)
            have HNO := Lib.hid hno
            clear hB hno
            by_cases hle : n ≤ r.length
            · have et := HT.out n
              have HFn := Lib.hid (HF.out n wr)
              cases hf : De.field (r.take n)
              · have hff := Lib.hid hf
                have HNO2 : Hid (∀ m, 1 ≤ m → m < n + 1 → De.field (r.take m) = false) := Lib.hid fun m h1 h2 => by
                  by_cases e : m = n
                  · subst e; exact hff.out
                  · exact HNO.out m h1 (by omega)
                clear hf
                go_wp2_with fail
                refine HFn.out.mono ?_
                rw [hff.out]
                rintro e w2 ⟨rfl, hb⟩
                have HB2 := Lib.hid (Below.after' HBo.out hb (Nat.le_refl _))
                clear hb
                go_wp2_with fail
                go_roundw
                case rel => exact ⟨n + 1, by omega, by omega, by go_num, HB2.out, HNO2.out⟩
                case measure => simp [intOf]; omega
              · have hff := Lib.hid hf
                have hcut := De.cut_of hle hf
                have hmore := PR.more HP.out H41.out (by rw [hcut]; omega)
                rw [hcut] at hmore
                have HMO := Lib.hid hmore
                have ed := HD.out n
                have hdl : (r.drop n).length = r.length - n := List.length_drop
                clear hf hcut hmore
                generalize r.take n = T at *
                generalize r.drop n = D at *
                go_wp2_with fail
                refine HFn.out.mono ?_
                rw [hff.out]
                rintro e w2 ⟨rfl, hb⟩
                have HB2 := Lib.hid (Below.after' HBi.out hb (Nat.le_refl _))
                have HR2 := Lib.hid (HRi.out.grow hb)
                clear hb
                go_wp2_with (at_builtin; (refine wpList_append_row rfl _ _ 25 25 rfl w.heap.size 9 i0 (.string ⟨#[]⟩) 1 16 Tryd.underlying25 hi hz0 hz1 hz2 rfl u6 _ _ rfl (HR2.out.grow ((Below.refl _ _).alloc (Nat.le_refl _) _)) (.slice (some ⟨w2.heap.size, 0, none⟩) 1 1) 1 [.string (bs T)] rfl ?_ ?c0 ?c1 ?c2 ?c3))
                case c0 => exact src_block Tryd.underlying25 1 1 1 _ #[.string (bs T)] _ _ (heap_alloc_new _ _) rfl (by simp [Value.oneCell'])
                case c1 => unfold maxLen; omega
                case c2 => omega
                case c3 => rw [World.size_alloc]; have := HB2.out.size; omega
                intro v' w3 hown hhop
                have hown' := Lib.hid (SRow.app (xs := acc) (ys := [T]) hown rfl)
                have HB3 := Lib.hid (((HB2.out).alloc HB2.out.size (.cells #[.string (bs T)] 9)).trans (hhop.below (by rw [World.size_alloc]; have := HB2.out.size; omega) (fun k e => (HR2.out.lt k e).1)))
                clear hown hhop
                go_wp2_with fail
                go_roundw
                case rel => exact ⟨D, acc ++ [T], rfl, hown'.out, HB3.out, HMO.out, by simp; omega⟩
                case measure => show (bs D).size < (bs r).size; rw [bs_size, bs_size]; omega
            · have hfin := Lib.hid (show De.params l = none by rw [HP.out, De.rest_stop H41.out (De.cut_none fun m h1 h2 => HNO.out m h1 (by omega))]; rfl)
              go_wp2
              go_ret3
              exact ParamsRes.none hfin.out rfl HBi.out
end Go.Proofs.YtdjdgipebonnaaaDoor
