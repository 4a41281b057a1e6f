/- The walks of layer 32: few, same, and the law of going back. -/
import Derived.Test.YtdgoffpfcgipkaaWalksE
namespace Go.Proofs.Ytdgoffpfcgipkaa
open Go.RowKit Go.Maps

def Fi.small (f : Fi) : Bool := !(decide (200 < f.name.length) || decide (500 < f.data.length))
def Fi.few (l : List Fi) : Bool := l.all Fi.small && decide (l.length ≤ 40)
theorem all_take_snoc {α : Type} (p : α → Bool) {l : List α} {i : Nat} {x : α} (h : l[i]? = some x) : (l.take (i + 1)).all p = ((l.take i).all p && p x) := by
  obtain ⟨h1, rfl⟩ := List.getElem?_eq_some_iff.1 h
  rw [List.take_succ_eq_append_getElem h1, List.all_append]
  simp
theorem all_bad {α : Type} (p : α → Bool) {l : List α} {i : Nat} {x : α} (h : l[i]? = some x) (hp : p x = false) : l.all p = false := by
  rw [List.all_eq_false]
  exact ⟨x, List.mem_of_getElem? h, by rw [hp]; simp⟩
set_option maxHeartbeats 4000000 in
theorem few_any (A : Option Addr) (c : Nat) (l : List Fi) (w : World) (hx : FilesAt w A c l) (hn : l.length ≤ 140737488355328) :
    Calls Try.prog 6 #[.slice A l.length c] w fun e w' => e = .returned (.bool (Fi.few l)) ∧ Below w.heap.size w w' := by
  have HX := Lib.hid hx
  clear hx
  go_enter Try.func6, Try.ntmps6
  go_wp2_with fail
  go_loopw [7] (fun u wr => ∃ i : Nat, i ≤ l.length ∧ u = .int .i64 i ∧ (l.take i).all Fi.small = true ∧ Below w.heap.size w wr) (fun u _ => l.length - (intOf u).toNat)
  case atStart => exact ⟨0, Nat.zero_le _, rfl, rfl, Below.refl _ _⟩
  case round =>
    obtain ⟨i, hil, rfl, hall, hB⟩ := hrel
    have HB := Lib.hid hB
    by_cases hi : i < l.length
    · obtain ⟨g, o, f, Bf, df, rfl, hg, hf, hok, hbf, c0, c1, c2, c3, c4⟩ := (HX.out.grow hB).at_ hi
      have p1 : decide ((i : Int) < (l.length : Int)) = true := decide_eq_true (by omega)
      have p2 : decide (i < l.length) = true := decide_eq_true hi
      have hz := bs_size f.name
      have HF := Lib.hid hf
      have HA := Lib.hid hall
      have k1 := Lib.hid (HB.out.trans (((Below.refl wr.heap.size wr).alloc (Nat.le_refl _) (.cells #[.string (bs f.name), .int .u16 (f.date : Int), .int .u16 (f.clock : Int), .bool f.cls, .slice Bf f.data.length df] 37)).mono HB.out.size))
      have hsm : Fi.small f = !(decide (200 < f.name.length) || decide (500 < f.data.length)) := rfl
      clear hall hB hok hbf hf
      by_cases h1 : 200 < f.name.length
      · have q1 : decide (200 < f.name.length) = true := decide_eq_true h1
        have q1' : decide ((200 : Int) < (f.name.length : Int)) = true := decide_eq_true (by omega)
        rw [q1, Bool.true_or, Bool.not_true] at hsm
        have HS := Lib.hid (all_bad Fi.small HF.out hsm)
        clear hsm
        go_wp2
        go_ret
        exact ⟨by unfold Fi.few; rw [HS.out]; rfl, k1.out⟩
      · have q1 : decide (200 < f.name.length) = false := decide_eq_false h1
        have q1' : decide ((200 : Int) < (f.name.length : Int)) = false := decide_eq_false (by omega)
        by_cases h2 : 500 < f.data.length
        · have q2 : decide (500 < f.data.length) = true := decide_eq_true h2
          have q2' : decide ((500 : Int) < (f.data.length : Int)) = true := decide_eq_true (by omega)
          rw [q1, q2, Bool.false_or, Bool.not_true] at hsm
          have HS := Lib.hid (all_bad Fi.small HF.out hsm)
          clear hsm
          go_wp2
          go_ret
          exact ⟨by unfold Fi.few; rw [HS.out]; rfl, k1.out⟩
        · have q2 : decide (500 < f.data.length) = false := decide_eq_false h2
          have q2' : decide ((500 : Int) < (f.data.length : Int)) = false := decide_eq_false (by omega)
          rw [q1, q2, Bool.false_or, Bool.not_false] at hsm
          have HS := Lib.hid (show (l.take (i + 1)).all Fi.small = true by rw [all_take_snoc Fi.small HF.out, HA.out, hsm]; rfl)
          clear hsm
          go_wp2
          go_roundw
          case rel => exact ⟨i + 1, by omega, by go_num, HS.out, k1.out⟩
          case measure => simp [intOf]; omega
    · obtain rfl : i = l.length := by omega
      have p1 : decide ((l.length : Int) < (l.length : Int)) = false := decide_eq_false (by omega)
      have p2 : decide (l.length < l.length) = false := decide_eq_false (by omega)
      rw [List.take_length] at hall
      have HA := Lib.hid hall
      clear hall hB
      go_wp2
      go_ret
      exact ⟨by unfold Fi.few; rw [HA.out, Bool.true_and]; show Ending.returned (.bool (decide ((l.length : Int) ≤ 40))) = _; rw [show decide ((l.length : Int) ≤ 40) = decide (l.length ≤ 40) from decide_eq_decide.2 (by omega)], HB.out⟩

set_option maxHeartbeats 4000000 in
set_option maxRecDepth 100000 in
theorem same_any (A : Option Addr) (c : Nat) (B : Option Addr) (d : Nat) (l : List Fi) (w : World) (hx : FilesAt w A c (l.map Fi.strip)) (hy : FilesAt w B d l) (hn : l.length ≤ 140737488355328) :
    Calls Try.prog 9 #[.slice A l.length c, .slice B l.length d] w fun e w' => e = .returned (.bool true) ∧ Below w.heap.size w w' := by
  have HX := Lib.hid hx
  have HY := Lib.hid hy
  clear hx hy
  go_enter Try.func9, Try.ntmps9
  go_wp2_with fail
  go_loopw [13] (fun u wr => ∃ i : Nat, i ≤ l.length ∧ u = .int .i64 i ∧ Below w.heap.size w wr) (fun u _ => l.length - (intOf u).toNat)
  case atStart => exact ⟨0, Nat.zero_le _, rfl, Below.refl _ _⟩
  case round =>
    obtain ⟨i, hil, rfl, hB⟩ := hrel
    have HB := Lib.hid hB
    by_cases hi : i < l.length
    · obtain ⟨g, o, f, Bf, df, rfl, hg, hf, hok, hbf, c0, c1, c2, c3, c4⟩ := (HY.out.grow hB).at_ hi
      obtain ⟨g', o', f', Bf', df', rfl, hg', hf', hok', hbf', c0', c1', c2', c3', c4'⟩ := (HX.out.grow hB).at_ (i := i) (by rw [List.length_map]; exact hi)
      rw [List.getElem?_map, hf] at hf'
      injection hf' with hf'
      subst hf'
      have hn0 : (Fi.strip f).name = f.name := rfl
      have hn1 : (Fi.strip f).date = f.date := rfl
      have hn2 : (Fi.strip f).clock = f.clock := rfl
      have hn3 : (Fi.strip f).cls = f.cls := rfl
      rw [hn0] at c0'; rw [hn1] at c1'; rw [hn2] at c2'; rw [hn3] at c3'
      clear hn0 hn1 hn2 hn3
      have p1 : decide ((i : Int) < (l.length : Int)) = true := decide_eq_true (by omega)
      have p2 : decide (i < l.length) = true := decide_eq_true hi
      have q1 : ((bs f.name).toList != (bs f.name).toList) = false := by simp
      have ht1 := Lib.hid (fun (X : World) (hb : Below wr.drew.heap.size wr.drew X) => (BAt.grow (w := wr.drew) (hbf.grow ((Below.refl _ _).drew)) hb).text)
      have ht2 := Lib.hid (fun (X : World) (hb : Below wr.drew.heap.size wr.drew X) => (BAt.grow (w := wr.drew) (hbf'.grow ((Below.refl _ _).drew)) hb).text)
      have zg : g < wr.drew.heap.size := hg
      have zx : g' < wr.drew.heap.size := hg'
      have d0 : wr.drew.cell? ⟨g, o + i * 5, none⟩ = some (.string (bs f.name)) := c0
      have d1 : wr.drew.cell? ⟨g, o + i * 5 + 1, none⟩ = some (.int .u16 (f.date : Int)) := c1
      have d2 : wr.drew.cell? ⟨g, o + i * 5 + 2, none⟩ = some (.int .u16 (f.clock : Int)) := c2
      have d3 : wr.drew.cell? ⟨g, o + i * 5 + 3, none⟩ = some (.bool f.cls) := c3
      have d4 : wr.drew.cell? ⟨g, o + i * 5 + 4, none⟩ = some (.slice Bf f.data.length df) := c4
      have d0' : wr.drew.cell? ⟨g', o' + i * 5, none⟩ = some (.string (bs f.name)) := c0'
      have d1' : wr.drew.cell? ⟨g', o' + i * 5 + 1, none⟩ = some (.int .u16 (f.date : Int)) := c1'
      have d2' : wr.drew.cell? ⟨g', o' + i * 5 + 2, none⟩ = some (.int .u16 (f.clock : Int)) := c2'
      have d3' : wr.drew.cell? ⟨g', o' + i * 5 + 3, none⟩ = some (.bool f.cls) := c3'
      have d4' : wr.drew.cell? ⟨g', o' + i * 5 + 4, none⟩ = some (.slice Bf' (Fi.strip f).data.length df') := c4'
      clear hB hok hok' hf hbf hbf' c0 c1 c2 c3 c4 c0' c1' c2' c3' c4'
      cases hc : f.cls with
      | true =>
        rw [hc] at d3 d3'
        go_wp2_with fail
        refine wp_region_ord 60 (by kernel_rfl) (by kernel_rfl) (fun _ _ d _ _ h => by cases d <;> exact h) ?_
        simp only [List.take_succ_cons, List.take_zero, List.drop_succ_cons, List.drop_zero]
        repeat (first | (refine wpLex_skip rfl ?_; simp only [Act.put, List.setIfInBounds_toArray, List.set_cons_zero, List.set_cons_succ]) | (refine wpLex_fix rfl ?_; intro F hF R hR hne K hK; go_big_quiet_op; first | (go_big_quiet_on; clear hne hR R hF F) | (apply Exists.intro; refine ⟨fun g => ?_, ?_⟩; (((first | (rw [ht1.out _ (GrE.below g)]; go_simp; first | exact ⟨rfl, rfl⟩ | rfl) | (rw [ht2.out _ (GrE.below g)]; go_simp; first | exact ⟨rfl, rfl⟩ | rfl) | (go_simp; (repeat (simp only [GrE.cell g _ _ zg, GrE.cell g _ _ zx]; go_simp)); first | exact ⟨rfl, rfl⟩ | rfl)))); go_big_quiet_on; clear hne hR R hF F)) | (apply wpLex_blk rfl; (focus (intro x hx; go_simp; exact ⟨rfl, rfl⟩)); intro B hB; simp only [Act.put, blkVal, List.setIfInBounds_toArray, List.set_cons_zero, List.set_cons_succ]))
        refine wpLex_nil ?_
        intro w1 hw1
        have K2 := Lib.hid (HB.out.trans (((Below.refl wr.heap.size wr).drew.trans hw1.below).mono HB.out.size))
        clear hw1
        go_wp2
        go_roundw
        case rel => exact ⟨i + 1, by omega, by go_num, K2.out⟩
        case measure => simp [intOf]; omega
      | false =>
        rw [hc] at d3 d3'
        have hsd : (Fi.strip f).data = f.data := by unfold Fi.strip Fi.bytes; rw [hc]; rfl
        rw [hsd] at ht2 d4'
        have q2 : ((bs f.data).toList != (bs f.data).toList) = false := by simp
        go_wp2_with fail
        refine wp_region_ord 60 (by kernel_rfl) (by kernel_rfl) (fun _ _ d _ _ h => by cases d <;> exact h) ?_
        simp only [List.take_succ_cons, List.take_zero, List.drop_succ_cons, List.drop_zero]
        repeat (first | (refine wpLex_skip rfl ?_; simp only [Act.put, List.setIfInBounds_toArray, List.set_cons_zero, List.set_cons_succ]) | (refine wpLex_fix rfl ?_; intro F hF R hR hne K hK; go_big_quiet_op; first | (go_big_quiet_on; clear hne hR R hF F) | (apply Exists.intro; refine ⟨fun g => ?_, ?_⟩; (((first | (rw [ht1.out _ (GrE.below g)]; go_simp; first | exact ⟨rfl, rfl⟩ | rfl) | (rw [ht2.out _ (GrE.below g)]; go_simp; first | exact ⟨rfl, rfl⟩ | rfl) | (go_simp; (repeat (simp only [GrE.cell g _ _ zg, GrE.cell g _ _ zx]; go_simp)); first | exact ⟨rfl, rfl⟩ | rfl)))); go_big_quiet_on; clear hne hR R hF F)) | (apply wpLex_blk rfl; (focus (intro x hx; go_simp; exact ⟨rfl, rfl⟩)); intro B hB; simp only [Act.put, blkVal, List.setIfInBounds_toArray, List.set_cons_zero, List.set_cons_succ]))
        refine wpLex_nil ?_
        intro w1 hw1
        have K2 := Lib.hid (HB.out.trans (((Below.refl wr.heap.size wr).drew.trans hw1.below).mono HB.out.size))
        clear hw1
        go_wp2
        go_roundw
        case rel => exact ⟨i + 1, by omega, by go_num, K2.out⟩
        case measure => simp [intOf]; omega
    · obtain rfl : i = l.length := by omega
      have p1 : decide ((l.length : Int) < (l.length : Int)) = false := decide_eq_false (by omega)
      have p2 : decide (l.length < l.length) = false := decide_eq_false (by omega)
      go_wp2
      go_ret
      exact ⟨rfl, HB.out⟩

set_option maxHeartbeats 8000000 in
set_option maxRecDepth 100000 in
theorem back_any (A : Option Addr) (c : Nat) (l : List Fi) (w : World) (hx : FilesAt w A c l) (hn : l.length ≤ 140737488355328) :
    Calls Try.prog 3 #[.slice A l.length c] w fun e w' => e = .returned (.bool true) ∧ Below w.heap.size w w' := by
  have HX := Lib.hid hx
  have HF := Lib.hid (fixed_any w)
  clear hx
  go_enter Try.func3, Try.ntmps3
  go_wp2_with fail
  refine HF.out.mono ?_
  rintro e w1 ⟨rfl, hb⟩
  have J1 := Lib.hid hb
  have HX1 := Lib.hid (HX.out.grow hb)
  have HW := Lib.hid (few_any A c l w1 HX1.out hn)
  clear hb HF
  go_wp2_with fail
  refine HW.out.mono ?_
  rintro e w2 ⟨rfl, hb⟩
  have J2 := Lib.hid (Below.after' J1.out hb (Nat.le_refl _))
  have HX2 := Lib.hid (HX1.out.grow hb)
  clear hb HW HX1
  cases hf : Fi.few l with
  | false =>
    go_wp2
    go_ret
    exact ⟨rfl, J2.out⟩
  | true =>
    unfold Fi.few at hf
    rw [Bool.and_eq_true, decide_eq_true_eq, List.all_eq_true] at hf
    obtain ⟨hsm, h40⟩ := hf
    have hd : ∀ f ∈ l, f.name.length ≤ 200 ∧ f.data.length ≤ 500 := fun f hf => by
      have := hsm f hf
      unfold Fi.small at this
      simp at this
      omega
    have HD := Lib.hid hd
    have hS := split_any A c l w2 HX2.out (by omega) (fun f hf => by have := (hd f hf).2; omega)
    have HS := Lib.hid hS
    clear hS hd hsm
    go_wp2_with fail
    refine HS.out.mono ?_
    rintro e w3 ⟨An, cn, R, Ad, cd, rfl, hN, hC, hA, hb⟩
    have hok : ∀ f ∈ l, f.ok := fun f hf => by
      obtain ⟨j, hj, rfl⟩ := List.mem_iff_getElem.1 hf
      obtain ⟨_, _, f', _, _, _, _, hf', hok, _⟩ := HX2.out.at_ hj
      rw [List.getElem?_eq_getElem hj] at hf'
      injection hf' with hf'
      exact hf' ▸ hok
    have hnl := Fi.names_len l
    have hJ := join_any An cn (Fi.names l) R Ad cd l w3 hN hC hA (fun f hf => ⟨hok f hf, Fi.names_mem _ _ hf, by have := (HD.out f hf).2; omega⟩) (by omega) (by omega) (Fi.sort_rises _) (fun s hs => by
      obtain ⟨f, hf, e⟩ := List.mem_map.1 ((Fi.sort_mem _ _).1 hs)
      exact ⟨f, hf, e⟩)
    have HJ := Lib.hid hJ
    have HN := Lib.hid hN
    have J3 := Lib.hid (Below.after' J2.out hb (Nat.le_refl _))
    have HX3 := Lib.hid (HX2.out.grow hb)
    clear hJ hN hC hA hb hok HS HX2
    have HR := Lib.hid (show Fi.Rises (Fi.names l) from Fi.sort_rises _)
    have HM := Lib.hid (fun s => (Fi.sort_mem (l.map Fi.name) s).1)
    have HM' : ∀ s ∈ Fi.names l, ∃ f ∈ l, f.name = s := fun s hs => by
      obtain ⟨f, hf, e⟩ := List.mem_map.1 (HM.out s hs)
      exact ⟨f, hf, e⟩
    have HM2 := Lib.hid HM'
    clear HM HM'
    generalize Fi.names l = ns at HJ HN HR HM2 hnl ⊢
    go_wp2_with fail
    refine HJ.out.mono ?_
    rintro e w4 ⟨Ax, cx, rfl, hX, hb⟩
    have HXX := Lib.hid hX
    have HN4 := Lib.hid (HN.out.grow hb)
    have J4 := Lib.hid (Below.after' J3.out hb (Nat.le_refl _))
    have HX4 := Lib.hid (HX3.out.grow hb)
    clear hX hb HJ HN HX3
    go_wp2_with fail
    go_loopw [8, 38] (fun b u wr => ∃ i : Nat, i ≤ l.length ∧ u = .int .i64 i ∧ b = .int .i64 ((Fi.all (l.take i)).length : Int) ∧ Below w4.heap.size w4 wr) (fun _ u _ => l.length - (intOf u).toNat)
    case atStart => exact ⟨0, Nat.zero_le _, rfl, rfl, Below.refl _ _⟩
    case round =>
      obtain ⟨i, hil, rfl, rfl, hB⟩ := hrel
      have HB := Lib.hid hB
      have hfl := flat_len (l.take i) 500 (fun f hf => by
        have := (HD.out f (List.mem_of_mem_take hf)).2
        unfold Fi.bytes
        split
        · simp
        · exact this)
      have hfl' : (Fi.all (l.take i)).length ≤ 20000 := by
        have h1 : (l.take i).length ≤ 40 := by simp; omega
        have : (Fi.all (l.take i)).length ≤ (l.take i).length * 500 := hfl
        omega
      clear hfl
      by_cases hi : i < l.length
      · obtain ⟨g, o, f, Bf, df, rfl, hg, hf, hok, hbf, c0, c1, c2, c3, c4⟩ := (HX4.out.grow hB).at_ hi
        have p1 : decide ((i : Int) < (l.length : Int)) = true := decide_eq_true (by omega)
        have p2 : decide (i < l.length) = true := decide_eq_true hi
        have hfd : f.data.length ≤ 500 := (HD.out f (List.mem_of_getElem? hf)).2
        have hsn := congrArg List.length (Fi.all_snoc hf)
        rw [List.length_append] at hsn
        have k1 := Lib.hid (HB.out.trans (((Below.refl wr.heap.size wr).alloc (Nat.le_refl _) (.cells #[.string (bs f.name), .int .u16 (f.date : Int), .int .u16 (f.clock : Int), .bool f.cls, .slice Bf f.data.length df] 37)).mono HB.out.size))
        clear hB hok hbf hf
        generalize (Fi.all (l.take i)).length = n0 at hsn hfl' ⊢
        have HSN := Lib.hid hsn
        clear hsn
        cases hc : f.cls with
        | true =>
          rw [hc] at c3 k1
          have hby : f.bytes.length = 0 := by unfold Fi.bytes; rw [hc]; rfl
          rw [hby] at HSN
          go_wp2
          go_roundw
          case rel => exact ⟨i + 1, by omega, by go_num, by rw [HSN.out]; rfl, k1.out⟩
          case measure => simp [intOf]; omega
        | false =>
          rw [hc] at c3 k1
          have hby : f.bytes.length = f.data.length := by unfold Fi.bytes; rw [hc]; rfl
          rw [hby] at HSN
          go_wp2
          go_roundw
          case rel => exact ⟨i + 1, by omega, by go_num, by rw [HSN.out]; go_num, k1.out⟩
          case measure => simp [intOf]; omega
      · obtain rfl : i = l.length := by omega
        have p1 : decide ((l.length : Int) < (l.length : Int)) = false := decide_eq_false (by omega)
        have p2 : decide (l.length < l.length) = false := decide_eq_false (by omega)
        have hal := hfl'
        rw [List.take_length] at hal ⊢
        have J5 := Lib.hid (Below.after' J4.out hB (Nat.le_refl _))
        have HN5 := Lib.hid (HN4.out.grow hB)
        have HX5 := Lib.hid (HX4.out.grow hB)
        have HXX5 := Lib.hid (HXX.out.grow hB)
        clear hB HB hfl' HXX HX4 HN4
        go_wp2_with fail
        go_loopw [53] (fun u ws => ∃ i : Nat, i ≤ ns.length ∧ u = .int .i64 i ∧ Below wr.heap.size wr ws) (fun u _ => ns.length - (intOf u).toNat)
        case atStart => exact ⟨0, Nat.zero_le _, rfl, Below.refl _ _⟩
        case round =>
          rename World => ws
          obtain ⟨i, hil, rfl, hB⟩ := hrel
          have HB := Lib.hid hB
          by_cases hi : i < ns.length
          · obtain ⟨gn, on, s, rfl, hgn, hns, cn0⟩ := (HN5.out.grow hB).at_ hi
            obtain ⟨f0, hf0, hfe⟩ := HM2.out s (List.mem_of_getElem? hns)
            have p3 : decide ((i : Int) < (ns.length : Int)) = true := decide_eq_true (by omega)
            have p4 : decide (i < ns.length) = true := decide_eq_true hi
            have HNS := Lib.hid hns
            have HF0 := Lib.hid (And.intro hf0 hfe)
            have hB2 := Lib.hid hB
            clear hB hns hf0 hfe
            go_wp2_with fail
            go_loopw [13, 60] (fun b u wt => ∃ k : Nat, k ≤ l.length ∧ u = .int .i64 k ∧ b = .bool ((l.take k).any fun f => f.name == s) ∧ Below ws.heap.size ws wt) (fun _ u _ => l.length - (intOf u).toNat)
            case atStart => exact ⟨0, Nat.zero_le _, rfl, rfl, Below.refl _ _⟩
            case round =>
              rename World => wt
              obtain ⟨k, hkl, rfl, rfl, hB⟩ := hrel
              have HB3 := Lib.hid hB
              by_cases hk : k < l.length
              · obtain ⟨g, o, f, Bf, df, rfl, hg, hf, hok, hbf, c0, c1, c2, c3, c4⟩ := (HX5.out.grow (Below.after' hB2.out hB (Nat.le_refl _))).at_ hk
                have q1 : decide ((k : Int) < (l.length : Int)) = true := decide_eq_true (by omega)
                have q2 : decide (k < l.length) = true := decide_eq_true hk
                have k1 := Lib.hid (HB3.out.trans (((Below.refl wt.heap.size wt).alloc (Nat.le_refl _) (.cells #[.string (bs f.name), .int .u16 (f.date : Int), .int .u16 (f.clock : Int), .bool f.cls, .slice Bf f.data.length df] 37)).mono HB3.out.size))
                have hsn : (l.take (k + 1)).any (fun f => f.name == s) = ((l.take k).any (fun f => f.name == s) || (f.name == s)) := by
                  obtain ⟨h1, rfl⟩ := List.getElem?_eq_some_iff.1 hf
                  rw [List.take_succ_eq_append_getElem h1, List.any_append]
                  simp
                have hq : ((bs f.name).toList == (bs s).toList) = (f.name == s) := by rw [bs_list, bs_list]
                have HSN := Lib.hid hsn
                clear hB hok hbf hf hsn
                generalize (l.take k).any (fun f => f.name == s) = b0 at HSN ⊢
                cases b0 with
                | true =>
                  go_wp2
                  go_roundw
                  case rel => exact ⟨k + 1, by omega, by go_num, by rw [HSN.out]; rfl, k1.out⟩
                  case measure => simp [intOf]; omega
                | false =>
                  generalize (f.name == s) = b1 at HSN hq
                  go_wp2
                  go_roundw
                  case rel => exact ⟨k + 1, by omega, by go_num, by rw [HSN.out]; rfl, k1.out⟩
                  case measure => simp [intOf]; omega
              · obtain rfl : k = l.length := by omega
                have q1 : decide ((l.length : Int) < (l.length : Int)) = false := decide_eq_false (by omega)
                have q2 : decide (l.length < l.length) = false := decide_eq_false (by omega)
                have hany : (l.take l.length).any (fun f => f.name == s) = true := by
                  rw [List.take_length, List.any_eq_true]
                  exact ⟨f0, HF0.out.1, by rw [HF0.out.2]; simp⟩
                rw [hany]
                have K3 := Lib.hid (Below.after' hB2.out hB (Nat.le_refl _))
                clear hB hany
                by_cases hi0 : i = 0
                · subst hi0
                  go_wp2
                  go_roundw
                  case rel => exact ⟨0 + 1, by omega, by go_num, K3.out⟩
                  case measure => simp [intOf]; omega
                · obtain ⟨gn', on', s', e1, _, hns', cn1⟩ := (HN5.out.grow K3.out).at_ (i := i - 1) (by omega)
                  injection e1 with e1
                  injection e1 with e1 e2 _
                  subst e1 e2
                  have hlt : s' < s := by
                    obtain ⟨h1, h2⟩ := List.getElem?_eq_some_iff.1 hns'
                    obtain ⟨h3, h4⟩ := List.getElem?_eq_some_iff.1 HNS.out
                    rw [← h2, ← h4]
                    exact List.pairwise_iff_getElem.1 HR.out (i - 1) i h1 h3 (by omega)
                  have hbl : Op.bytesLess (bs s').toList (bs s).toList = true := by rw [bs_list, bs_list, bytesLess_eq, decide_eq_true_eq]; exact hlt
                  have q3 : decide ((0 : Int) < (i : Int)) = true := decide_eq_true (by omega)
                  have q4 : decide (0 < i) = true := decide_eq_true (by omega)
                  have q5 : ((i : Int) - 1) = ((i - 1 : Nat) : Int) := by omega
                  have q6 : decide (((i - 1 : Nat) : Int) < (ns.length : Int)) = true := decide_eq_true (by omega)
                  have q7 : decide (i - 1 < ns.length) = true := decide_eq_true (by omega)
                  clear hns' hlt
                  go_wp2
                  go_roundw
                  case rel => exact ⟨i + 1, by omega, by go_num, K3.out⟩
                  case measure => simp [intOf]; omega
          · obtain rfl : i = ns.length := by omega
            have p3 : decide ((ns.length : Int) < (ns.length : Int)) = false := decide_eq_false (by omega)
            have p4 : decide (ns.length < ns.length) = false := decide_eq_false (by omega)
            have J6 := Lib.hid (Below.after' J5.out hB (Nat.le_refl _))
            have HX6 := Lib.hid (HX5.out.grow hB)
            have HXX6 := Lib.hid (HXX5.out.grow hB)
            clear hB HB HXX5 HX5 HN5 J5
            go_wp2_with fail
            go_loopw [90] (fun u wt => ∃ i : Nat, i ≤ l.length ∧ u = .int .i64 i ∧ Below ws.heap.size ws wt) (fun u _ => l.length - (intOf u).toNat)
            case atStart => exact ⟨0, Nat.zero_le _, rfl, Below.refl _ _⟩
            case round =>
              rename World => wt
              obtain ⟨i, hil, rfl, hB⟩ := hrel
              have HB := Lib.hid hB
              by_cases hi : i < l.length
              · obtain ⟨g, o, f, Bf, df, rfl, hg, hf, hok, hbf, c0, c1, c2, c3, c4⟩ := (HXX6.out.grow hB).at_ (i := i) (by rw [List.length_map]; exact hi)
                have q1 : decide ((i : Int) < (l.length : Int)) = true := decide_eq_true (by omega)
                have q2 : decide (i < l.length) = true := decide_eq_true hi
                have k1 := Lib.hid (HB.out.trans (((Below.refl wt.heap.size wt).alloc (Nat.le_refl _) (.cells #[.string (bs f.name), .int .u16 (f.date : Int), .int .u16 (f.clock : Int), .bool f.cls, .slice Bf f.data.length df] 37)).mono HB.out.size))
                have hcd : f.cls = true → f.data.length = 0 := fun hc => by
                  rw [List.getElem?_map] at hf
                  obtain ⟨f', _, rfl⟩ := Option.map_eq_some_iff.1 hf
                  have hc' : f'.cls = true := hc
                  show f'.bytes.length = 0
                  unfold Fi.bytes
                  rw [hc']
                  rfl
                clear hB hok hbf hf
                cases hc : f.cls with
                | true =>
                  rw [hc] at c3 k1
                  have h0 := hcd hc
                  rw [h0] at c4 k1
                  clear hcd
                  go_wp2
                  go_roundw
                  case rel => exact ⟨i + 1, by omega, by go_num, k1.out⟩
                  case measure => simp [intOf]; omega
                | false =>
                  rw [hc] at c3 k1
                  clear hcd
                  go_wp2
                  go_roundw
                  case rel => exact ⟨i + 1, by omega, by go_num, k1.out⟩
                  case measure => simp [intOf]; omega
              · obtain rfl : i = l.length := by omega
                have q1 : decide ((l.length : Int) < (l.length : Int)) = false := decide_eq_false (by omega)
                have q2 : decide (l.length < l.length) = false := decide_eq_false (by omega)
                have J7 := Lib.hid (Below.after' J6.out hB (Nat.le_refl _))
                have HS := Lib.hid (same_any Ax cx A c l wt (HXX6.out.grow hB) (HX6.out.grow hB) hn)
                clear hB HB HXX6 HX6 J6
                go_wp2_with fail
                refine HS.out.mono ?_
                rintro e w9 ⟨rfl, hb⟩
                have J8 := Lib.hid (Below.after' J7.out hb (Nat.le_refl _))
                clear hb
                go_wp2
                go_ret
                exact ⟨rfl, J8.out⟩
end Go.Proofs.Ytdgoffpfcgipkaa
