/- The walks of layer 32: columns that are none, the fixed calls, which names are classes'. -/
import Derived.Test.YtdgoffpfcgipkaaWalksD
import Derived.Lib.SlBytesConst
namespace Go.Proofs.Ytdgoffpfcgipkaa
open Go.RowKit Go.Maps

theorem check_bad (w : World) : Calls Try.prog 13 #[.slice none 0 0, .slice none 0 0] w fun e w' => e = .returned (.int .i64 2) ∧ w' = w := by
  go_enter Try.func13, Try.ntmps13
  go_wp2
  go_ret
  exact ⟨rfl, rfl⟩
theorem join_bad (w : World) : Calls Try.prog 8 #[.slice none 0 0, .slice none 0 0, .slice none 0 0] w fun e w' => e = .returned (.tuple #[.slice none 0 0, .int .i64 2]) ∧ w' = w := by
  go_enter Try.func8, Try.ntmps8
  go_wp2_with fail
  refine (check_bad w).mono ?_
  rintro e w' ⟨rfl, rfl⟩
  go_wp2
  go_ret2
  exact ⟨rfl, rfl⟩

def Fi.two : List Fi := [⟨[98], 0, 0, false, [120]⟩, ⟨[97, 46, 99, 108, 97, 115, 115], 0, 0, true, []⟩]
theorem Fi.two_names : Fi.names Fi.two = [[97, 46, 99, 108, 97, 115, 115], [98]] := by
  show Lib.compact ([[98], [97, 46, 99, 108, 97, 115, 115]].mergeSort fun x y => decide (x ≤ y)) = _
  have h : ([[98], [97, 46, 99, 108, 97, 115, 115]] : List (List UInt8)).mergeSort (fun x y => decide (x ≤ y)) = [[97, 46, 99, 108, 97, 115, 115], [98]] := by
    simp [List.mergeSort, List.MergeSort.Internal.splitInTwo, List.merge]
    decide
  rw [h]
  decide +kernel

theorem Fi.two_ok : ∀ f ∈ Fi.two, f.ok := by
  intro f hf
  simp only [Fi.two, List.mem_cons, List.not_mem_nil, or_false] at hf
  rcases hf with rfl | rfl <;> exact ⟨by decide, by decide⟩
theorem Fi.two_len : ∀ f ∈ Fi.two, f.data.length ≤ 100000 := by
  intro f hf
  simp only [Fi.two, List.mem_cons, List.not_mem_nil, or_false] at hf
  rcases hf with rfl | rfl <;> decide
theorem cell_of_block {w : World} {g : Nat} {cs : Array Value} {t : TypeId} {fr : Nat × Nat} (h : w.heap[g]? = some (.cells cs t fr)) (j : Nat) : w.cell? ⟨g, j, none⟩ = cs[j]? := by
  have := cell_of_row w g j cs t fr h
  exact this
theorem FilesAt.of_block {w : World} {g : Nat} {vals : List Value} {t : TypeId} {fr : Nat × Nat} {xs : List Fi} (hb : w.heap[g]? = some (.cells vals.toArray t fr)) (h : FV w vals xs) : FilesAt w (some ⟨g, 0, none⟩) xs.length xs :=
  ⟨Nat.le_refl _, fun _ => ⟨g, 0, rfl, (Array.getElem?_eq_some_iff.1 hb).1, fun j f hf => by
    obtain ⟨h0, B, d, h1, h2⟩ := h.at_ j f hf
    refine ⟨h0, B, d, h1.1, fun i u hu => ?_⟩
    rw [Nat.zero_add, cell_of_block hb, List.getElem?_toArray]
    exact h2 i u hu⟩⟩

set_option maxHeartbeats 4000000 in
set_option maxRecDepth 100000 in
theorem fixed_any (w : World) : Calls Try.prog 5 #[] w fun e w' => e = .returned (.bool true) ∧ Below w.heap.size w w' := by
  have hcv := Lib.run_convert_bytes_const (P := Try.prog) w 27 5 #[.int .u8 120] 1 1 Try.underlying27 Try.underlying5
  go_enter Try.func5, Try.ntmps5
  go_wp2_with fail
  have k1 : Below w.heap.size w ((w.alloc (.cells #[.int .u8 120] 5 (1, 2))).alloc (.cells #[.string ⟨#[98]⟩, .int .u16 0, .int .u16 0, .bool false, .slice (some ⟨w.heap.size, 0, none⟩) 1 1, .string ⟨#[97, 46, 99, 108, 97, 115, 115]⟩, .int .u16 0, .int .u16 0, .bool true, .slice none 0 0] 37)) :=
    ((Below.refl w.heap.size w).alloc (Nat.le_refl _) _).alloc (by simp) _
  have hb1 : ((w.alloc (.cells #[.int .u8 120] 5 (1, 2))).alloc (.cells #[.string ⟨#[98]⟩, .int .u16 0, .int .u16 0, .bool false, .slice (some ⟨w.heap.size, 0, none⟩) 1 1, .string ⟨#[97, 46, 99, 108, 97, 115, 115]⟩, .int .u16 0, .int .u16 0, .bool true, .slice none 0 0] 37)).heap[w.heap.size + 1]? = some (.cells (fc ⟨[98], 0, 0, false, [120]⟩ (some ⟨w.heap.size, 0, none⟩) 1 ++ (fc ⟨[97, 46, 99, 108, 97, 115, 115], 0, 0, true, []⟩ none 0 ++ [])).toArray 37 (0, 0)) := by
    have := heap_alloc_new (w.alloc (.cells #[.int .u8 120] 5 (1, 2))) (.cells #[.string ⟨#[98]⟩, .int .u16 0, .int .u16 0, .bool false, .slice (some ⟨w.heap.size, 0, none⟩) 1 1, .string ⟨#[97, 46, 99, 108, 97, 115, 115]⟩, .int .u16 0, .int .u16 0, .bool true, .slice none 0 0] 37)
    have e : (w.alloc (.cells #[.int .u8 120] 5 (1, 2))).heap.size = w.heap.size + 1 := by simp
    rw [e] at this
    exact this
  have hb0 : ((w.alloc (.cells #[.int .u8 120] 5 (1, 2))).alloc (.cells #[.string ⟨#[98]⟩, .int .u16 0, .int .u16 0, .bool false, .slice (some ⟨w.heap.size, 0, none⟩) 1 1, .string ⟨#[97, 46, 99, 108, 97, 115, 115]⟩, .int .u16 0, .int .u16 0, .bool true, .slice none 0 0] 37)).heap[w.heap.size]? = some (.cells #[.int .u8 120] 5 (1, 2)) :=
    (heap_alloc_old _ _ (by simp)).trans (heap_alloc_new _ _)
  generalize (w.alloc (.cells #[.int .u8 120] 5 (1, 2))).alloc (.cells #[.string ⟨#[98]⟩, .int .u16 0, .int .u16 0, .bool false, .slice (some ⟨w.heap.size, 0, none⟩) 1 1, .string ⟨#[97, 46, 99, 108, 97, 115, 115]⟩, .int .u16 0, .int .u16 0, .bool true, .slice none 0 0] 37) = X at k1 hb1 hb0 ⊢
  have hd : Dat X (some ⟨w.heap.size, 0, none⟩) 1 [120] := ⟨⟨Nat.le_refl _, fun _ => ⟨w.heap.size, 0, rfl, (Array.getElem?_eq_some_iff.1 hb0).1, fun j x hj => by
    obtain ⟨hj0, rfl⟩ : j = 0 ∧ x = 120 := by
      have h1 := (List.getElem?_eq_some_iff.1 hj).1
      simp at h1
      subst h1
      simp at hj
      exact ⟨rfl, hj.symm⟩
    subst hj0
    exact cell_of_block hb0 0⟩⟩, fun _ g o e => by cases e; exact ⟨_, _, hb0⟩⟩
  have hF : FilesAt X (some ⟨w.heap.size + 1, 0, none⟩) 2 Fi.two := FilesAt.of_block hb1 ⟨⟨by decide, by decide⟩, _, _, _, rfl, hd, ⟨by decide, by decide⟩, _, _, _, rfl, Dat.nil _ _ _, rfl⟩
  have K1 := Lib.hid k1
  have hS := split_any (some ⟨w.heap.size + 1, 0, none⟩) 2 Fi.two X hF (by decide) Fi.two_len
  clear hcv hb1 hb0 hd hF k1
  refine hS.mono ?_
  rintro e w1 ⟨An, cn, R, Ad, cd, rfl, hN, hC, hA, hb⟩
  have HN := Lib.hid hN
  have HA := Lib.hid hA
  have K2 := Lib.hid (Below.after' K1.out hb (Nat.le_refl _))
  have hJ := join_any An cn (Fi.names Fi.two) R Ad cd Fi.two w1 hN hC hA (fun f hf => ⟨Fi.two_ok f hf, Fi.names_mem _ _ hf, Fi.two_len f hf⟩) (by decide) (by rw [Fi.two_names]; decide) (Fi.sort_rises _) (fun s hs => by
    obtain ⟨f, hf, e⟩ := List.mem_map.1 ((Fi.sort_mem _ _).1 hs)
    exact ⟨f, hf, e⟩)
  clear hN hC hA hb
  rw [Fi.two_names] at HN
  have hl1 : (Fi.all Fi.two).length = 1 := rfl
  have hl2 : (Fi.names Fi.two).length = 2 := by rw [Fi.two_names]; rfl
  have hl3 : Fi.two.length = 2 := rfl
  rw [hl1, hl2, hl3] at hJ
  rw [hl1, hl2]
  clear hl1 hl2 hl3
  have HJ := Lib.hid hJ
  clear hJ
  go_wp2_with fail
  refine HJ.out.mono ?_
  rintro e w2 ⟨Ax, cx, rfl, hX, hb⟩
  have K3 := Lib.hid (Below.after' K2.out hb (Nat.le_refl _))
  have HX := Lib.hid hX
  have HN2 := Lib.hid (HN.out.grow hb)
  have HA2 := Lib.hid (HA.out.grow hb)
  clear hX hb HN HA
  go_wp2_with fail
  refine (join_bad w2).mono ?_
  rintro e w3 ⟨rfl, rfl⟩
  obtain ⟨g0, o0, n0, e0, z0, f0, t0⟩ := HN2.out.at_ (i := 0) (by decide)
  subst e0
  obtain ⟨gx, ox, x0, B0, d0, e1, z1, f1, _, _, c0, _⟩ := HX.out.at_ (i := 0) (by decide)
  subst e1
  obtain ⟨gy, oy, x1, B1, d1, e2, _, f2, _, _, _, _, _, c1, _⟩ := HX.out.at_ (i := 1) (by decide)
  injection e2 with e2
  injection e2 with e2 e3 _
  subst e2 e3
  obtain rfl : [97, 46, 99, 108, 97, 115, 115] = n0 := by injection f0
  injection f1 with f1
  injection f2 with f2
  subst f1 f2
  have ht := HA2.out.text
  have hal : Fi.all Fi.two = [120] := rfl
  rw [hal] at ht
  rw [Nat.add_zero] at t0
  rw [Nat.zero_mul, Nat.add_zero] at c0
  have ht' : (convert 27 9 (.slice Ad 1 cd)).run Try.prog w3 = .ok (.string ⟨#[120]⟩) w3 := ht
  have t0' : w3.cell? ⟨g0, o0, none⟩ = some (.string ⟨#[97, 46, 99, 108, 97, 115, 115]⟩) := t0
  have c0' : w3.cell? ⟨gx, ox, none⟩ = some (.string ⟨#[98]⟩) := c0
  have c1' : w3.cell? ⟨gx, ox + 5 + 3, none⟩ = some (.bool true) := by rw [Nat.one_mul] at c1; exact c1
  have hI1 := Lib.hid (isClass_any [97, 46, 99, 108, 97, 115, 115] w3 (by decide))
  have hI2 := Lib.hid (isClass_any [46, 99, 108, 97, 115, 115] w3 (by decide))
  have q1 : ((⟨#[97, 46, 99, 108, 97, 115, 115]⟩ : ByteArray) == ⟨#[97, 46, 99, 108, 97, 115, 115]⟩) = true := by decide
  have q2 : ((⟨#[120]⟩ : ByteArray) == ⟨#[120]⟩) = true := by decide
  have q3 : ((⟨#[98]⟩ : ByteArray) == ⟨#[98]⟩) = true := by decide
  clear ht t0 c0 c1 hal HN2 HX HA2 HJ
  go_wp2_with fail
  refine hI1.out.mono ?_
  rintro e w4 ⟨rfl, rfl⟩
  have hc1 : Fi.isClass [97, 46, 99, 108, 97, 115, 115] = true := by decide +kernel
  have hc2 : Fi.isClass [46, 99, 108, 97, 115, 115] = false := by decide +kernel
  rw [hc1]
  rw [hc2] at hI2
  go_wp2_with fail
  refine hI2.out.mono ?_
  rintro e w4 ⟨rfl, rfl⟩
  go_wp2
  go_ret
  exact ⟨rfl, K3.out⟩

theorem Fi.isClass_long (l : List UInt8) (h : 6 < l.length) : (((bs l).extract (l.length - 6) l.length).toList == [46, 99, 108, 97, 115, 115]) = Fi.isClass l := by
  have h1 := Lib.hasSuffix_raw (bs l) ⟨#[46, 99, 108, 97, 115, 115]⟩
  rw [bs_size] at h1
  have h2 : (⟨#[46, 99, 108, 97, 115, 115]⟩ : ByteArray).size = 6 := rfl
  rw [h2, decide_eq_true (show 6 ≤ l.length by omega), Bool.true_and] at h1
  unfold Fi.isClass
  rw [decide_eq_true h, Bool.and_true]
  have h3 : (⟨#[46, 99, 108, 97, 115, 115]⟩ : ByteArray).toList = [46, 99, 108, 97, 115, 115] := bs_list [46, 99, 108, 97, 115, 115]
  rw [h3] at h1
  exact h1
theorem Fi.isClass_short (l : List UInt8) (h : ¬ 6 < l.length) : Fi.isClass l = false := by
  unfold Fi.isClass
  rw [decide_eq_false h, Bool.and_false]
set_option maxHeartbeats 4000000 in
theorem names_any (l : List UInt8) (w : World) (hl : l.length ≤ 140737488355328) : Calls Try.prog 4 #[.string (bs l)] w fun e w' => e = .returned (.bool true) ∧ Below w.heap.size w w' := by
  have hz := bs_size l
  have HF := Lib.hid (fixed_any w)
  have HI := Lib.hid (fun w => isClass_any l w hl)
  by_cases h6 : 6 < l.length
  · have u1 : decide (6 < l.length) = true := decide_eq_true h6
    have u2 : decide ((6 : Int) < (l.length : Int)) = true := decide_eq_true (by omega)
    have HC := Lib.hid (Fi.isClass_long l h6)
    go_enter Try.func4, Try.ntmps4
    go_wp2_with fail
    refine HF.out.mono ?_
    rintro e w1 ⟨rfl, hb⟩
    have HB := Lib.hid hb
    clear hb HF
    go_wp2_with fail
    refine (HI.out w1).mono ?_
    rintro e w2 ⟨rfl, rfl⟩
    have hL : ((l.length : Int) - 6) = ((l.length - 6 : Nat) : Int) := by omega
    have u3 : decide ((0 : Int) ≤ (l.length : Int) - 6) = true := decide_eq_true (by omega)
    go_wp2
    go_ret
    exact ⟨by rw [HC.out]; simp, HB.out⟩
  · have u1 : decide (6 < l.length) = false := decide_eq_false h6
    have u2 : decide ((6 : Int) < (l.length : Int)) = false := decide_eq_false (by omega)
    rw [Fi.isClass_short l h6] at HI
    go_enter Try.func4, Try.ntmps4
    go_wp2_with fail
    refine HF.out.mono ?_
    rintro e w1 ⟨rfl, hb⟩
    have HB := Lib.hid hb
    clear hb HF
    go_wp2_with fail
    refine (HI.out w1).mono ?_
    rintro e w2 ⟨rfl, rfl⟩
    go_wp2
    go_ret
    exact ⟨rfl, HB.out⟩
end Go.Proofs.Ytdgoffpfcgipkaa
