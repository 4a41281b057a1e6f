/- Joined texts: PortQ, PortO, PortP, PortR, TabB. -/
import Derived.Test.YtdmiljaiglaacaaPk11
import Derived.Test.YtdmiljaiglaacaaPk10
import Derived.Test.YtdmiljaiglaacaaPk3
import Derived.LoopN
import Derived.Test.YtdmiljaiglaacaaPk7
import Derived.Test.YtdmiljaiglaacaaPk4
import Derived.BigRegion
/- The fixed case of layer 29. -/
namespace Go.Proofs.Ytdmiljaiglaacaa
open Go.RowKit Go.Maps

theorem PortS.congr {x : World} {base b : Nat} {tp : Value} {us : Nat → Value} {R R' : Nat → List Int} {rd : Bool} {e : Int} (h : PortS x base b tp us R rd e) (hR : ∀ t, t < 64 → R t = R' t) : PortS x base b tp us R' rd e :=
  ⟨h.box, fun t ht => by rw [← hR t ht]; exact h.rows t ht, h.apart, h.hb⟩
theorem PortS.same {x y : World} {base b : Nat} {tp : Value} {us : Nat → Value} {R : Nat → List Int} {rd : Bool} {e : Int} (h : PortS x base b tp us R rd e) (hs : ∀ g, base ≤ g → g < x.heap.size → y.heap[g]? = x.heap[g]?) : PortS y base b tp us R rd e := by
  refine ⟨?_, fun t ht => ?_, h.apart, h.hb⟩
  · have hl := h.box.lt
    obtain ⟨cs, h1, h2⟩ := h.box
    exact ⟨cs, (hs b h.hb hl).trans h1, h2⟩
  · have hr := h.rows t ht
    refine ⟨hr.1, ?_⟩
    rcases hr.2 with h2 | ⟨g, o, cap, cur, e1, e2, e3, e4⟩
    · exact .inl h2
    · exact .inr ⟨g, o, cap, cur, e1, e2, (hs g e2 (Array.getElem?_eq_some_iff.1 e3).1).trans e3, e4⟩
theorem rows_nrows {w' : World} {g : Nat} {R : Nat → List Int} {u : Nat → Value} {base : Nat} (h1 : w'.rowIs g 45 64 u) (h2 : ∀ t, t < 64 → ISub w' base (u t) (R t)) : NRows w' (some ⟨g, 0, none⟩) 64 ((List.range 64).map R) := by
  refine ⟨by simp, fun _ => ⟨g, 0, rfl, h1.lt, fun j l hj => ?_⟩⟩
  rw [List.getElem?_map] at hj
  cases hq : (List.range 64)[j]? with
  | none => rw [hq] at hj; cases hj
  | some z =>
    rw [hq] at hj
    cases hj
    obtain ⟨h3, h4⟩ := List.getElem?_eq_some_iff.1 hq
    simp at h3 h4
    subst h4
    rw [Nat.zero_add]
    exact ⟨u j, h1.cell h3, (h2 j h3).lower (Nat.zero_le _)⟩
theorem range_map_getD {R : Nat → List Int} {t : Nat} (ht : t < 64) : (if t < 64 then ((List.range 64).map R).getD t [] else []) = R t := by
  rw [if_pos ht, List.getD, List.getElem?_map, List.getElem?_range ht]
  rfl
def R0 : Nat → List Int := fun _ => []
theorem step_f1 : stepI false R0 0 3 5 = (upd R0 3 [5], 0, 5) := rfl
theorem step_f2 : stepI true (upd R0 3 [5]) 0 3 0 = (upd (upd R0 3 [5]) 3 [], 0, 5) := rfl
theorem step_f3 : stepI true (upd (upd R0 3 [5]) 3 []) 0 3 5 = (upd (upd R0 3 [5]) 3 [], 6, 5) := rfl
theorem step_f4 : (stepC false (upd R0 3 [5]) 0 2 7 3).2.2 = 7 := rfl
theorem left_f : leftB (upd (upd R0 3 [5]) 3 []) = false := leftB_false fun ⟨t, _, h⟩ => h (by
  unfold upd R0
  by_cases e : t = 3 <;> simp [e])
theorem upd_len {R : Nat → List Int} {t : Nat} {zs : List Int} {n : Nat} (h : ∀ t, (R t).length ≤ n) (hz : zs.length ≤ n) : ∀ k, (upd R t zs k).length ≤ n := fun k => by
  unfold upd
  split
  · exact hz
  · exact h k
set_option maxRecDepth 100000 in
set_option maxHeartbeats 8000000 in
theorem fixed_any (w : World) : Calls Try.prog 5 #[] w fun e w' => e = .returned (.bool true) ∧ Below w.heap.size w w' := by
  have hl0 : ∀ t, (R0 t).length ≤ 1000000 := fun t => by simp [R0]
  have hl1 : ∀ t, (upd R0 3 [5] t).length ≤ 1000000 := upd_len hl0 (by simp)
  have hl2 : ∀ t, (upd (upd R0 3 [5]) 3 [] t).length ≤ 1000000 := upd_len hl1 (by simp)
  have HL0 := Lib.hid hl0
  have HL1 := Lib.hid hl1
  have HL2 := Lib.hid hl2
  clear hl0 hl1 hl2
  go_enter Try.func5, Try.ntmps5
  go_wp2_with fail
  refine (writer_any none w).mono ?_
  rintro e w1 ⟨rfl, h1, hb1⟩
  have P1 := Lib.hid h1
  have K1 := Lib.hid hb1
  clear h1 hb1
  have k2 := Lib.hid ((Below.refl w1.heap.size w1).alloc (Nat.le_refl _) (.cells #[.int .i64 5] 3))
  have HI1 := Lib.hid (int_any 3 5 w1.heap.size 0 #[.int .i64 5] 3 (P1.out.grow k2.out) (heap_alloc_new _ _) rfl (P1.out.off (Nat.le_refl _)) P1.out.ble HL0.out)
  have HI := Lib.hid (show Calls _ _ _ _ (IntOk _ _ _ _ _ (upd R0 3 [5]) _ 0 _ _ _ _ (.int .i64 5)) from HI1.out)
  clear HI1
  go_wp2_with fail
  refine HI.out.mono ?_
  rintro e w3 ⟨rfl, ⟨us3, h3, us0, e0, f3⟩, _⟩
  have P3 := Lib.hid h3
  have K3 := Lib.hid ((K1.out.trans (k2.out.mono K1.out.size)).trans f3.below)
  have HR := Lib.hid (rows_any h3 HL1.out)
  clear h3 f3 P1 K1 k2 HI e0
  go_wp2_with fail
  refine HR.out.mono ?_
  rintro e w4 ⟨u, rfl, hrow, hsub, hb4⟩
  obtain ⟨A, c, eu, hx, _, _⟩ := hsub 3 (by decide)
  have c3 := hrow.cell (i := 3) (by decide)
  rw [eu] at c3
  have hx5 : Ints w4 A c [5] := hx
  obtain ⟨g, o, z, rfl, hgz, hz, c5⟩ := hx5.at_ (i := 0) (by simp)
  cases hz
  rw [Nat.add_zero] at c5
  have hrz := hrow.lt
  have P4 := Lib.hid (P3.out.grow hb4)
  have OFP := Lib.hid (fun g (hg : w4.heap.size ≤ g) => P4.out.off hg)
  have K4 := Lib.hid (K3.out.trans (hb4.mono K3.out.size))
  have HQ := Lib.hid (reader_any none (some ⟨w3.heap.size, 0, none⟩) 64 ((List.range 64).map (upd R0 3 [5])) w4 (rows_nrows hrow hsub) (fun e => by cases e) (by simp) (fun l hl => by
    obtain ⟨t, _, rfl⟩ := List.mem_map.1 hl
    exact HL1.out t))
  rw [List.length_map, List.length_range] at HQ
  rw [show upd R0 3 [5] 3 = [5] from rfl] at c3
  clear hrow hsub hb4 P3 K3 HR eu hx hx5
  go_wp2_with fail
  refine HQ.out.mono ?_
  rintro e w5 ⟨rfl, ⟨us5, h5⟩, hb5⟩
  have Q5 := Lib.hid (h5.congr (R' := upd R0 3 [5]) (fun t ht => range_map_getD ht))
  have B5 := Lib.hid hb5
  have k6 := Lib.hid ((Below.refl w5.heap.size w5).alloc (Nat.le_refl _) (.cells #[.int .i64 0] 3))
  have HOF := Lib.hid (Q5.out.off (Nat.le_refl w5.heap.size))
  have HI1 := Lib.hid (int_any 3 0 w5.heap.size 0 #[.int .i64 0] 3 (Q5.out.grow k6.out) (heap_alloc_new _ _) rfl HOF.out (Nat.le_trans hb5.size (Nat.le_refl _)) HL1.out)
  have HI := Lib.hid (show Calls _ _ _ _ (IntOk _ _ _ _ _ (upd (upd R0 3 [5]) 3 []) _ 0 _ _ _ _ (.int .i64 5)) from HI1.out)
  clear h5 hb5 HI1 c3 c5 hgz hrz HQ
  go_wp2_with fail
  refine HI.out.mono ?_
  rintro e w7 ⟨rfl, ⟨us7, h7, us0, rfl, f7⟩, g7⟩
  have Q7 := Lib.hid h7
  have B7 := Lib.hid ((k6.out.mono B5.out.size).trans f7.below)
  have O7 := Lib.hid (f7.off _ (by simp) HOF.out)
  have G7 := Lib.hid (show w7.heap[w5.heap.size]? = some (.cells #[.int .i64 5] 3 (0, 0)) from g7)
  have HE := Lib.hid (end_any h7)
  rw [if_neg (by rw [left_f]; simp)] at HE
  clear h7 f7 g7 HI k6 HOF Q5
  go_wp2_with fail
  refine HE.out.mono ?_
  rintro e w8 ⟨rfl, us8, h8, us0', rfl, f8⟩
  have Q8 := Lib.hid h8
  have B8 := Lib.hid (B7.out.trans f8.below)
  have hz7 := (Array.getElem?_eq_some_iff.1 G7.out).1
  have O8 := Lib.hid (f8.off _ hz7 O7.out)
  have G8 := Lib.hid ((f8.same _ hz7 O7.out (by simp)).trans G7.out)
  have HI1 := Lib.hid (int_any 3 5 w5.heap.size 0 #[.int .i64 5] 3 h8 G8.out rfl O8.out B5.out.size HL2.out)
  have HI := Lib.hid (show Calls _ _ _ _ (IntOk _ _ _ _ _ (upd (upd R0 3 [5]) 3 []) _ 6 _ _ _ _ (.int .i64 5)) from HI1.out)
  clear h8 f8 HE HI1 Q7 B7 O7 G7 hz7
  go_wp2_with fail
  refine HI.out.mono ?_
  rintro e w9 ⟨rfl, ⟨us9, h9, us0, rfl, f9⟩, g9⟩
  have Q9 := Lib.hid h9
  have B9 := Lib.hid (B8.out.trans f9.below)
  have g9' : w9.heap[w5.heap.size]? = some (.cells #[.int .i64 5] 3 (0, 0)) := g9
  have c9 : w9.cell? ⟨w5.heap.size, 0, none⟩ = some (.int .i64 5) := (blk_facts g9').1 0
  have z9 := (Array.getElem?_eq_some_iff.1 g9').1
  have BB := Lib.hid (B5.out.trans B9.out)
  have K9 := Lib.hid (K4.out.trans (BB.out.mono K4.out.size))
  have P9 := Lib.hid (P4.out.grow BB.out)
  have HE9 := Lib.hid (err_any h9)
  have HC := Lib.hid (fun (y : World) (hy : Below w9.heap.size w9 y) => count_any 2 7 3 (P9.out.grow hy) HL1.out)
  rw [step_f4] at HC
  clear h9 f9 g9 g9' HI P4 K4 B5 B8 O8 G8 Q8 B9 BB
  go_wp2_with fail
  refine HE9.out.mono ?_
  rintro e x ⟨rfl, rfl⟩
  go_wp2_with fail
  refine (HC.out _ (Below.refl _ _)).mono ?_
  rintro e w10 ⟨rfl, us10, h10, us0, rfl, f10⟩
  have P10 := Lib.hid h10
  have B10 := Lib.hid f10.below
  have F10 := Lib.hid f10
  clear h10 f10 HC
  have K10 := Lib.hid (K9.out.trans (B10.out.mono (Nat.le_refl _)))
  have Q10 := Lib.hid (Q9.out.same (y := w10) (fun g hg hgz => F10.out.same g hgz (OFP.out g hg) (by simp)))
  have HRQ := Lib.hid (reads_any Q10.out)
  have HRP := Lib.hid (reads_any P10.out)
  clear B10 K9 Q9 P9 OFP
  go_wp2_with fail
  refine HRQ.out.mono ?_
  rintro e x ⟨rfl, rfl⟩
  go_wp2_with fail
  refine HRP.out.mono ?_
  rintro e x ⟨rfl, rfl⟩
  go_wp2_with fail
  go_ret
  exact ⟨rfl, K10.out⟩
end Go.Proofs.Ytdmiljaiglaacaa

/- Rows of things; which values a thing wants; are they few. -/
namespace Go.Proofs.Ytdmiljaiglaacaa
open Go.RowKit Go.Maps

/-- Things that lie in cells. -/
def TAt (w : World) (g o : Nat) (t : Th) : Prop :=
  (w.cell? ⟨g, o, none⟩ = some (.int .u8 t.kind) ∧ w.cell? ⟨g, o + 1, none⟩ = some (.int .i64 t.row) ∧ w.cell? ⟨g, o + 2, none⟩ = some (.int .i64 t.n) ∧ w.cell? ⟨g, o + 3, none⟩ = some (.string (bs t.s))) ∧
  w.cell? ⟨g, o + 4, none⟩ = some (.int .i64 t.v.tag) ∧ w.cell? ⟨g, o + 5, none⟩ = some (.string (bs t.v.text)) ∧ w.cell? ⟨g, o + 6, none⟩ = some (.int .u64 t.v.bits) ∧ w.cell? ⟨g, o + 7, none⟩ = some (.string (bs t.v.cls)) ∧ w.cell? ⟨g, o + 8, none⟩ = some (.string (bs t.v.name)) ∧ w.cell? ⟨g, o + 9, none⟩ = some (.string (bs t.v.desc))
theorem TAt.same {w w' : World} {g o : Nat} {t : Th} (h : TAt w g o t) (k : w'.heap[g]? = w.heap[g]?) : TAt w' g o t := by
  obtain ⟨⟨h0, h1, h2, h3⟩, h4, h5, h6, h7, h8, h9⟩ := h
  have hc : ∀ j, w'.cell? ⟨g, j, none⟩ = w.cell? ⟨g, j, none⟩ := fun j => World.cell?_of_block (a := ⟨g, j, none⟩) k
  exact ⟨⟨(hc _).trans h0, (hc _).trans h1, (hc _).trans h2, (hc _).trans h3⟩, (hc _).trans h4, (hc _).trans h5, (hc _).trans h6, (hc _).trans h7, (hc _).trans h8, (hc _).trans h9⟩
def Ths (w : World) (A : Option Addr) (c : Nat) (l : List Th) : Prop :=
  l.length ≤ c ∧ (0 < l.length → ∃ g o, A = some ⟨g, o, none⟩ ∧ g < w.heap.size ∧ ∀ (j : Nat) t, l[j]? = some t → TAt w g (o + j * 10) t)
theorem Ths.grow {w w' : World} {A : Option Addr} {c : Nat} {l : List Th} (h : Ths w A c l) (k : Below w.heap.size w w') : Ths w' A c l :=
  ⟨h.1, fun hp => by
    obtain ⟨g, o, e, hg, hc⟩ := h.2 hp
    exact ⟨g, o, e, Nat.lt_of_lt_of_le hg k.size, fun j t ht => (hc j t ht).same (k.block g hg)⟩⟩
theorem Ths.nil (w : World) (A : Option Addr) (c : Nat) : Ths w A c [] := ⟨Nat.zero_le _, fun h => by simp at h⟩
theorem Ths.at_ {w : World} {A : Option Addr} {c : Nat} {l : List Th} (h : Ths w A c l) {i : Nat} (hi : i < l.length) : ∃ g o t, A = some ⟨g, o, none⟩ ∧ g < w.heap.size ∧ l[i]? = some t ∧ TAt w g (o + i * 10) t := by
  obtain ⟨g, o, e, hg, hc⟩ := h.2 (by omega)
  exact ⟨g, o, _, e, hg, List.getElem?_eq_getElem hi, hc i _ (List.getElem?_eq_getElem hi)⟩
def Th.small (t : Th) : Bool := !decide (300 < t.s.length + t.v.text.length + t.v.cls.length + t.v.name.length + t.v.desc.length)
def Th.few (l : List Th) : Bool := l.all Th.small && decide (l.length ≤ 60)
set_option maxHeartbeats 4000000 in
theorem tfew_any (A : Option Addr) (c : Nat) (l : List Th) (w : World) (hx : Ths w A c l) (hn : l.length ≤ 140737488355328) (hf : ∀ v ∈ l, v.fits) :
    Calls Try.prog 6 #[.slice A l.length c] w fun e w' => e = .returned (.bool (Th.few l)) ∧ Below w.heap.size w w' := by
  have HX := Lib.hid hx
  have HFT := Lib.hid hf
  clear hx hf
  go_enter Try.func6, Try.ntmps6
  go_wp2_with fail
  go_loopw [7] (fun u wr => ∃ i : Nat, i ≤ l.length ∧ u = .int .i64 i ∧ (l.take i).all Th.small = true ∧ Below w.heap.size w wr) (fun u _ => l.length - (intOf u).toNat)
  case atStart => exact ⟨0, Nat.zero_le _, rfl, rfl, Below.refl _ _⟩
  case round =>
    obtain ⟨i, hil, rfl, hall, hB⟩ := hrel
    have HB := Lib.hid hB
    by_cases hi : i < l.length
    · obtain ⟨g, o, t, rfl, hg, ht, ⟨c0, c1, c2, c3⟩, c4, c5, c6, c7, c8, c9⟩ := (HX.out.grow hB).at_ hi
      obtain ⟨_, _, _, f0, _, _, f1, f2, f3, f4⟩ := HFT.out t (List.mem_of_getElem? ht)
      have p1 : decide ((i : Int) < (l.length : Int)) = true := decide_eq_true (by omega)
      have p2 : decide (i < l.length) = true := decide_eq_true hi
      have z0 := bs_size t.s
      have z1 := bs_size t.v.text
      have z2 := bs_size t.v.cls
      have z3 := bs_size t.v.name
      have z4 := bs_size t.v.desc
      have HF := Lib.hid ht
      have HA := Lib.hid hall
      have k1 := Lib.hid (HB.out.trans (((Below.refl wr.heap.size wr).alloc (Nat.le_refl _) (tobj t)).mono HB.out.size))
      unfold tobj tcells at k1
      have hsm : Th.small t = !decide (300 < t.s.length + t.v.text.length + t.v.cls.length + t.v.name.length + t.v.desc.length) := rfl
      clear hall hB ht
      by_cases h1 : 300 < t.s.length + t.v.text.length + t.v.cls.length + t.v.name.length + t.v.desc.length
      · have q1 : decide (300 < t.s.length + t.v.text.length + t.v.cls.length + t.v.name.length + t.v.desc.length) = true := decide_eq_true h1
        have q1' : decide ((300 : Int) < (t.s.length : Int) + (t.v.text.length : Int) + (t.v.cls.length : Int) + (t.v.name.length : Int) + (t.v.desc.length : Int)) = true := decide_eq_true (by omega)
        rw [q1, Bool.not_true] at hsm
        have HS := Lib.hid (all_bad Th.small HF.out hsm)
        clear hsm
        go_wp2
        go_ret
        exact ⟨by unfold Th.few; rw [HS.out]; rfl, k1.out⟩
      · have q1 : decide (300 < t.s.length + t.v.text.length + t.v.cls.length + t.v.name.length + t.v.desc.length) = false := decide_eq_false h1
        have q1' : decide ((300 : Int) < (t.s.length : Int) + (t.v.text.length : Int) + (t.v.cls.length : Int) + (t.v.name.length : Int) + (t.v.desc.length : Int)) = false := decide_eq_false (by omega)
        rw [q1, Bool.not_false] at hsm
        have HS := Lib.hid (show (l.take (i + 1)).all Th.small = true by rw [all_take_snoc Th.small HF.out, HA.out, hsm]; rfl)
        clear hsm
        go_wp2
        go_roundw
        case rel => exact ⟨i + 1, by omega, by go_num, HS.out, k1.out⟩
        case measure => simp [intOf]; omega
    · obtain rfl : i = l.length := by omega
      have p1 : decide ((l.length : Int) < (l.length : Int)) = false := decide_eq_false (by omega)
      have p2 : decide (l.length < l.length) = false := decide_eq_false (by omega)
      rw [List.take_length] at hall
      have HA := Lib.hid hall
      clear hall hB
      go_wp2
      go_ret
      exact ⟨by unfold Th.few; rw [HA.out, Bool.true_and]; show Ending.returned (.bool (decide ((l.length : Int) ≤ 60))) = _; rw [show decide ((l.length : Int) ≤ 60) = decide (l.length ≤ 60) from decide_eq_decide.2 (by omega)], HB.out⟩
/-- The values that a thing wants. -/
def Th.wants (t : Th) : List Pv :=
  match t.kind % 7 with
  | 1 => [⟨1, t.s, 0, [], [], []⟩]
  | 2 => if t.s = [] then [] else [⟨1, t.s, 0, [], [], []⟩]
  | 3 => [⟨7, t.s, 0, [], [], []⟩]
  | 4 => if t.s = [] then [] else [⟨7, t.s, 0, [], [], []⟩]
  | 5 => [t.v]
  | _ => []
theorem wants_one {w W : World} {v : Pv} (hb : Below w.heap.size w W) {g : Nat} (hg : w.heap.size ≤ g) (hh : W.heap[g]? = some (vcells v)) : Gives w [v] (.returned (.slice (some ⟨g, 0, none⟩) 1 1)) W :=
  ⟨_, rfl, ⟨by simp [vc], .inr ⟨g, 1, _, rfl, hg, hh, Nat.le_refl _, by unfold maxLen; omega, rfl, by simp [vc]⟩⟩, hb⟩
theorem wants_nil (w W : World) (hb : Below w.heap.size w W) : Gives w [] (.returned (.slice none 0 0)) W := ⟨_, rfl, VRow.nil _ _, hb⟩
set_option maxRecDepth 100000 in
set_option maxHeartbeats 4000000 in
theorem wants_any (t : Th) (w : World) : Calls Try.prog 7 #[tv t] w (Gives w t.wants) := by
  have k0 := Lib.hid ((Below.refl w.heap.size w).alloc (Nat.le_refl _) (tobj t))
  have q0 := Lib.hid (th_new w t)
  obtain ⟨⟨c0, c1, c2, c3⟩, c4, c5, c6, c7, c8, c9⟩ := (th_new w t).at_
  have z1 := (th_new w t).lt
  have h7 : t.kind % 7 < 7 := Nat.mod_lt _ (by decide)
  unfold Th.wants
  generalize hq : t.kind % 7 = q at h7 ⊢
  have hqi : (t.kind : Int) % 7 = (q : Int) := by omega
  clear hq
  obtain ⟨W, hW⟩ : ∃ W, W = w.alloc (tobj t) := ⟨_, rfl⟩
  rw [← hW] at k0 q0 c0 c1 c2 c3 c4 c5 c6 c7 c8 c9 z1
  have HW := Lib.hid hW
  have hwz := k0.out.size
  clear hW
  have one : ∀ (tag : Int), Hid (Gives w [⟨tag, t.s, 0, [], [], []⟩] (.returned (.slice (some ⟨W.heap.size, 0, none⟩) 1 1)) (W.alloc (vcells ⟨tag, t.s, 0, [], [], []⟩))) := fun tag => wants_one (k0.out.alloc hwz _) hwz (heap_alloc_new _ _)
  have none' := Lib.hid (wants_nil w W k0.out)
  have all := Lib.hid (show Gives w [t.v] (.returned (.slice (some ⟨W.heap.size, 0, none⟩) 1 1)) (W.alloc (vcells t.v)) from wants_one (k0.out.alloc hwz _) hwz (heap_alloc_new _ _))
  unfold vcells at one all
  dsimp only at one
  unfold tv tcells
  obtain rfl | rfl | rfl | rfl | rfl | rfl | rfl : q = 0 ∨ q = 1 ∨ q = 2 ∨ q = 3 ∨ q = 4 ∨ q = 5 ∨ q = 6 := by omega
  · go_enter Try.func7, Try.ntmps7
    go_upto_region 1 with fail
    rw [show w.alloc (.cells #[.int .u8 t.kind, .int .i64 t.row, .int .i64 t.n, .string (bs t.s), .int .i64 t.v.tag, .string (bs t.v.text), .int .u64 t.v.bits, .string (bs t.v.cls), .string (bs t.v.name), .string (bs t.v.desc)] 30) = W from HW.out.symm]
    go_wp2
    go_ret
    exact none'.out
  · go_enter Try.func7, Try.ntmps7
    go_upto_region 1 with fail
    rw [show w.alloc (.cells #[.int .u8 t.kind, .int .i64 t.row, .int .i64 t.n, .string (bs t.s), .int .i64 t.v.tag, .string (bs t.v.text), .int .u64 t.v.bits, .string (bs t.v.cls), .string (bs t.v.name), .string (bs t.v.desc)] 30) = W from HW.out.symm]
    go_wp2
    go_ret
    exact (one 1).out
  · refine (show Calls _ _ _ w (Gives w (if t.s = [] then [] else [⟨1, t.s, 0, [], [], []⟩])) from ?_)
    by_cases hs : t.s = []
    · rw [if_pos hs]
      have hs2 : (bs t.s).toList = [] := by rw [hs]; exact bs_list []
      clear hs
      go_enter Try.func7, Try.ntmps7
      go_upto_region 1 with fail
      rw [show w.alloc (.cells #[.int .u8 t.kind, .int .i64 t.row, .int .i64 t.n, .string (bs t.s), .int .i64 t.v.tag, .string (bs t.v.text), .int .u64 t.v.bits, .string (bs t.v.cls), .string (bs t.v.name), .string (bs t.v.desc)] 30) = W from HW.out.symm]
      go_wp2
      go_ret
      exact none'.out
    · rw [if_neg hs]
      have hs2 : ¬ (bs t.s).toList = [] := fun h => hs (by rwa [bs_list] at h)
      have hs3 : (bs t.s).toList.isEmpty = false := by rw [bs_list]; cases hh : t.s <;> simp_all
      clear hs
      go_enter Try.func7, Try.ntmps7
      go_upto_region 1 with fail
      rw [show w.alloc (.cells #[.int .u8 t.kind, .int .i64 t.row, .int .i64 t.n, .string (bs t.s), .int .i64 t.v.tag, .string (bs t.v.text), .int .u64 t.v.bits, .string (bs t.v.cls), .string (bs t.v.name), .string (bs t.v.desc)] 30) = W from HW.out.symm]
      go_wp2
      go_ret
      exact (one 1).out
  · go_enter Try.func7, Try.ntmps7
    go_upto_region 1 with fail
    rw [show w.alloc (.cells #[.int .u8 t.kind, .int .i64 t.row, .int .i64 t.n, .string (bs t.s), .int .i64 t.v.tag, .string (bs t.v.text), .int .u64 t.v.bits, .string (bs t.v.cls), .string (bs t.v.name), .string (bs t.v.desc)] 30) = W from HW.out.symm]
    go_wp2
    go_ret
    exact (one 7).out
  · refine (show Calls _ _ _ w (Gives w (if t.s = [] then [] else [⟨7, t.s, 0, [], [], []⟩])) from ?_)
    by_cases hs : t.s = []
    · rw [if_pos hs]
      have hs2 : (bs t.s).toList = [] := by rw [hs]; exact bs_list []
      clear hs
      go_enter Try.func7, Try.ntmps7
      go_upto_region 1 with fail
      rw [show w.alloc (.cells #[.int .u8 t.kind, .int .i64 t.row, .int .i64 t.n, .string (bs t.s), .int .i64 t.v.tag, .string (bs t.v.text), .int .u64 t.v.bits, .string (bs t.v.cls), .string (bs t.v.name), .string (bs t.v.desc)] 30) = W from HW.out.symm]
      go_wp2
      go_ret
      exact none'.out
    · rw [if_neg hs]
      have hs2 : ¬ (bs t.s).toList = [] := fun h => hs (by rwa [bs_list] at h)
      have hs3 : (bs t.s).toList.isEmpty = false := by rw [bs_list]; cases hh : t.s <;> simp_all
      clear hs
      go_enter Try.func7, Try.ntmps7
      go_upto_region 1 with fail
      rw [show w.alloc (.cells #[.int .u8 t.kind, .int .i64 t.row, .int .i64 t.n, .string (bs t.s), .int .i64 t.v.tag, .string (bs t.v.text), .int .u64 t.v.bits, .string (bs t.v.cls), .string (bs t.v.name), .string (bs t.v.desc)] 30) = W from HW.out.symm]
      go_wp2
      go_ret
      exact (one 7).out
  · go_enter Try.func7, Try.ntmps7
    go_upto_region 1 with fail
    rw [show w.alloc (.cells #[.int .u8 t.kind, .int .i64 t.row, .int .i64 t.n, .string (bs t.s), .int .i64 t.v.tag, .string (bs t.v.text), .int .u64 t.v.bits, .string (bs t.v.cls), .string (bs t.v.name), .string (bs t.v.desc)] 30) = W from HW.out.symm]
    go_wp2
    go_ret
    exact all.out
  · go_enter Try.func7, Try.ntmps7
    go_upto_region 1 with fail
    rw [show w.alloc (.cells #[.int .u8 t.kind, .int .i64 t.row, .int .i64 t.n, .string (bs t.s), .int .i64 t.v.tag, .string (bs t.v.text), .int .u64 t.v.bits, .string (bs t.v.cls), .string (bs t.v.name), .string (bs t.v.desc)] 30) = W from HW.out.symm]
    go_wp2
    go_ret
    exact none'.out
end Go.Proofs.Ytdmiljaiglaacaa

/- Layer 29's plain law: what goes through a writer comes out of a reader. -/
namespace Go.Proofs.Ytdmiljaiglaacaa
open Go.RowKit Go.Maps

theorem Th.eq_iff (a b : Th) : a = b ↔ a.kind = b.kind ∧ a.row = b.row ∧ a.n = b.n ∧ a.s = b.s ∧ a.v.tag = b.v.tag ∧ a.v.text = b.v.text ∧ a.v.bits = b.v.bits ∧ a.v.cls = b.v.cls ∧ a.v.name = b.v.name ∧ a.v.desc = b.v.desc := by
  constructor
  · rintro rfl; exact ⟨rfl, rfl, rfl, rfl, rfl, rfl, rfl, rfl, rfl, rfl⟩
  · intro ⟨h0, h1, h2, h3, h4⟩
    cases a; cases b
    simp only at h0 h1 h2 h3
    subst h0 h1 h2 h3
    rw [Th.mk.injEq]
    exact ⟨rfl, rfl, rfl, rfl, (Pv.eq_iff _ _).2 h4⟩
theorem beq_int (a b : Int) : (a == b) = decide (a = b) := by by_cases h : a = b <;> simp [h]
theorem beq_nat (a b : Nat) : ((a : Int) == (b : Int)) = decide (a = b) := by
  by_cases h : a = b
  · simp [h]
  · have h' : ¬ (a : Int) = (b : Int) := by omega
    simp [h, h']
set_option maxHeartbeats 2000000 in
theorem eq_thing (a b : Th) (x : World) : (Op.equalIn 10000 30 (tv a) (tv b)).run Try.prog x = .ok (decide (a = b)) x := by
  unfold tv tcells
  have h0 := beq_nat a.kind b.kind
  have h1 := beq_int a.row b.row
  have h2 := beq_int a.n b.n
  have h3 := bs_beq a.s b.s
  have h4 := beq_int a.v.tag b.v.tag
  have h5 := bs_beq a.v.text b.v.text
  have h6 := beq_nat a.v.bits b.v.bits
  have h7 := bs_beq a.v.cls b.v.cls
  have h8 := bs_beq a.v.name b.v.name
  have h9 := bs_beq a.v.desc b.v.desc
  rw [show (10000 : Nat) = 9998 + 1 + 1 from rfl]
  go_simp
  by_cases e : a = b
  · subst e; simp
  · rw [decide_eq_false e]
    rw [Th.eq_iff] at e
    repeat' split
    all_goals first | rfl | exact absurd ⟨by assumption, by assumption, by assumption, by assumption, by assumption, by assumption, by assumption, by assumption, by assumption, by assumption⟩ e
/-- A thing's number. -/
def Th.num (O : List Pv) (t : Th) : Int :=
  match t.kind % 7 with
  | 1 => (Pv.rk O ⟨1, t.s, 0, [], [], []⟩ : Nat)
  | 2 => if t.s = [] then 0 else ((Pv.rk O ⟨1, t.s, 0, [], [], []⟩ : Nat) : Int) + 1
  | 3 => (Pv.rk O ⟨7, t.s, 0, [], [], []⟩ : Nat)
  | 4 => if t.s = [] then 0 else ((Pv.rk O ⟨7, t.s, 0, [], [], []⟩ : Nat) : Int) + 1
  | 5 => (Pv.rk O t.v : Nat)
  | _ => t.n
theorem pe_in {row : Int} (h0 : 0 ≤ row) (h1 : row < 64) : pe 0 row true = 0 := by
  unfold pe
  rw [if_neg (by simp; omega)]
theorem rk_ltO {O : List Pv} {v : Pv} (h : v ∈ O) : Pv.rk O v < O.length := by
  have h1 := (List.getElem?_eq_some_iff.1 (row_get h)).1
  exact Nat.lt_of_lt_of_le h1 (row_len O v.tag)
theorem wrap_nat {n : Nat} (h : n ≤ 2000000) : wrap64 (n : Int) = (n : Int) := by
  unfold wrap64; omega
section
variable {O : List Pv} {R : Nat → List Int} {t : Th}
theorem put_v {more : Int} {v : Pv} {row : Nat} (hv : v ∈ O) (hO : O.length ≤ 1000000) (hm : more = 0 ∨ more = 1) : stepV false O R row v more true = (upd R row (R row ++ [((Pv.rk O v : Nat) : Int) + more]), 0, v, false) := by
  unfold stepV
  rw [if_neg (by simp), if_neg (by simp), if_pos (by simpa using hv), nums_all, if_pos hv]
  have h1 := rk_ltO hv
  have e : wrap64 (((Pv.rk O v : Nat) : Int) + more) = ((Pv.rk O v : Nat) : Int) + more := by
    unfold wrap64; rcases hm with rfl | rfl <;> omega
  rw [e]
theorem get_v {more : Int} {v v0 : Pv} {row : Nat} {zs : List Int} (hv : v ∈ O) (ht : v0.tag = v.tag) (hO : O.length ≤ 1000000) (hm : more = 0 ∨ more = 1) (hR : R row = (((Pv.rk O v : Nat) : Int) + more) :: zs) (there : Bool) : stepV true O R row v0 more there = (upd R row zs, 0, v, true) := by
  unfold stepV
  rw [if_pos rfl]
  have h1 := rk_ltO hv
  have e : wrap64 (((Pv.rk O v : Nat) : Int) + more - more) = ((Pv.rk O v : Nat) : Int) := by
    unfold wrap64; omega
  simp only [hR, e]
  rw [if_neg (by omega)]
  have hg : getAt O v0.tag ((Pv.rk O v : Nat) : Int) = some v := by
    unfold getAt
    rw [if_pos (by omega), Int.toNat_natCast, ht]
    exact row_get hv
  rw [hg]
theorem write_step (h0 : 0 ≤ t.row) (h1 : t.row < 64) (hw : ∀ v ∈ t.wants, v ∈ O) (hO : O.length ≤ 1000000) : stepTh false O R 0 t = (upd R t.row.toNat (R t.row.toNat ++ [t.num O]), 0, t) := by
  have hp := pe_in h0 h1
  unfold stepTh Th.num
  unfold Th.wants at hw
  have h7 : t.kind % 7 < 7 := Nat.mod_lt _ (by decide)
  generalize t.kind % 7 = q at h7 hw ⊢
  have hT : ∀ (tag more : Int), stepT false O R 0 t.row tag more t.s = ((stepV false O R t.row.toNat ⟨tag, t.s, 0, [], [], []⟩ more (more == 0 || !decide (t.s = []))).1, (stepV false O R t.row.toNat ⟨tag, t.s, 0, [], [], []⟩ more (more == 0 || !decide (t.s = []))).2.1,
      if (stepV false O R t.row.toNat ⟨tag, t.s, 0, [], [], []⟩ more (more == 0 || !decide (t.s = []))).2.2.2 = true then (stepV false O R t.row.toNat ⟨tag, t.s, 0, [], [], []⟩ more (more == 0 || !decide (t.s = []))).2.2.1.text else t.s) := fun tag more => by
    unfold stepT
    rw [if_neg (by simp [hp])]
  have hI : stepI false R 0 t.row t.n = (upd R t.row.toNat (R t.row.toNat ++ [t.n]), 0, t.n) := by
    unfold stepI
    rw [if_neg (by simp [hp]), if_neg (by simp)]
  obtain rfl | rfl | rfl | rfl | rfl | rfl | rfl : q = 0 ∨ q = 1 ∨ q = 2 ∨ q = 3 ∨ q = 4 ∨ q = 5 ∨ q = 6 := by omega
  · simp only [hI]
  · simp only [hT]
    rw [show ((0 : Int) == 0 || !decide (t.s = [])) = true from rfl, put_v (hw _ (List.mem_singleton.2 rfl)) hO (.inl rfl)]
    simp
  · simp only [hT]
    by_cases hs : t.s = []
    · have e : ((1 : Int) == 0 || !decide (t.s = [])) = false := by simp [hs]
      rw [e]
      unfold stepV
      simp [hs]
      rw [← hs]
    · have e : ((1 : Int) == 0 || !decide (t.s = [])) = true := by simp [hs]
      have hw' : ∀ v ∈ (if t.s = [] then [] else [(⟨1, t.s, 0, [], [], []⟩ : Pv)]), v ∈ O := hw
      rw [if_neg hs] at hw'
      rw [e, put_v (hw' _ (List.mem_singleton.2 rfl)) hO (.inr rfl)]
      simp [hs]
  · simp only [hT]
    rw [show ((0 : Int) == 0 || !decide (t.s = [])) = true from rfl, put_v (hw _ (List.mem_singleton.2 rfl)) hO (.inl rfl)]
    simp
  · simp only [hT]
    by_cases hs : t.s = []
    · have e : ((1 : Int) == 0 || !decide (t.s = [])) = false := by simp [hs]
      rw [e]
      unfold stepV
      simp [hs]
      rw [← hs]
    · have e : ((1 : Int) == 0 || !decide (t.s = [])) = true := by simp [hs]
      have hw' : ∀ v ∈ (if t.s = [] then [] else [(⟨7, t.s, 0, [], [], []⟩ : Pv)]), v ∈ O := hw
      rw [if_neg hs] at hw'
      rw [e, put_v (hw' _ (List.mem_singleton.2 rfl)) hO (.inr rfl)]
      simp [hs]
  · have hY : stepY false O R 0 t.row t.v.tag t.v = (upd R t.row.toNat (R t.row.toNat ++ [((Pv.rk O t.v : Nat) : Int)]), 0, t.v) := by
      unfold stepY
      rw [if_neg (by simp [hp])]
      simp only [Bool.false_eq_true, if_false]
      rw [put_v (hw _ (List.mem_singleton.2 rfl)) hO (.inl rfl)]
      simp
    simp only [hY]
  · have hC : stepC false R 0 t.row t.n 1000 = (upd R t.row.toNat (R t.row.toNat ++ [t.n]), 0, t.n) := by
      unfold stepC
      simp [hI]
    simp only [hC]
/-- What is read for a thing. -/
def Th.blank (t : Th) : Th := ⟨t.kind, t.row, 0, [], ⟨t.v.tag, [], 0, [], [], []⟩⟩
theorem read_step {zs : List Int} (h0 : 0 ≤ t.row) (h1 : t.row < 64) (hw : ∀ v ∈ t.wants, v ∈ O) (hO : O.length ≤ 1000000) (h6 : t.kind % 7 = 6 → 0 ≤ t.n ∧ t.n ≤ 1000) (hR : R t.row.toNat = t.num O :: zs) (hft : t.fits) :
    ∃ t' : Th, stepTh true O R 0 t.blank = (upd R t.row.toNat zs, 0, t') ∧ (t.kind % 7 = 0 ∨ t.kind % 7 = 6 → t'.n = t.n) ∧ (t.kind % 7 = 5 → t'.v = t.v) ∧ (¬ (t.kind % 7 = 0 ∨ t.kind % 7 = 6) → t.kind % 7 ≠ 5 → t'.s = t.s) := by
  have hp := pe_in h0 h1
  unfold stepTh
  unfold Th.num at hR
  unfold Th.wants at hw
  have h7 : t.kind % 7 < 7 := Nat.mod_lt _ (by decide)
  rw [show t.blank.kind = t.kind from rfl]
  generalize t.kind % 7 = q at h7 hw hR h6 ⊢
  have hT : ∀ (tag more : Int) (v : Pv), v ∈ O → v.tag = tag → (more = 0 ∨ more = 1) → R t.row.toNat = (((Pv.rk O v : Nat) : Int) + more) :: zs → stepT true O R 0 t.blank.row tag more t.blank.s = (upd R t.row.toNat zs, 0, v.text) := fun tag more v hv ht hm hR => by
    unfold stepT Th.blank
    rw [if_neg (by simp [hp])]
    have hg := get_v (v0 := ⟨tag, [], 0, [], [], []⟩) hv ht.symm hO hm hR (more == 0 || !decide (([] : List UInt8) = []))
    rw [hg]
    simp
  have hZ : ∀ (tag : Int), R t.row.toNat = 0 :: zs → stepT true O R 0 t.blank.row tag 1 t.blank.s = (upd R t.row.toNat zs, 0, []) := fun tag hR => by
    unfold stepT Th.blank
    rw [if_neg (by simp [hp])]
    unfold stepV
    simp [hR, Pv.zero]
  have hI : ∀ z, R t.row.toNat = z :: zs → stepI true R 0 t.blank.row t.blank.n = (upd R t.row.toNat zs, 0, z) := fun z hR => by
    unfold stepI Th.blank
    rw [if_neg (by simp [hp]), if_pos rfl]
    simp [hR]
  obtain rfl | rfl | rfl | rfl | rfl | rfl | rfl : q = 0 ∨ q = 1 ∨ q = 2 ∨ q = 3 ∨ q = 4 ∨ q = 5 ∨ q = 6 := by omega
  · refine ⟨{ t.blank with n := t.n }, by simp only [hI _ hR]; rfl, fun _ => rfl, fun h => by omega, fun h => absurd (.inl rfl) h⟩
  · have hv := hw _ (List.mem_singleton.2 rfl)
    refine ⟨{ t.blank with s := t.s }, by simp only [hT 1 0 _ hv rfl (.inl rfl) (by rw [Int.add_zero]; exact hR)]; rfl, fun h => by omega, fun h => by omega, fun _ _ => rfl⟩
  · by_cases hs : t.s = []
    · have hR' : R t.row.toNat = (if t.s = [] then 0 else ((Pv.rk O ⟨1, t.s, 0, [], [], []⟩ : Nat) : Int) + 1) :: zs := hR
      rw [if_pos hs] at hR'
      refine ⟨{ t.blank with s := [] }, by simp only [hZ 1 hR']; rfl, fun h => by omega, fun h => by omega, fun _ _ => hs.symm⟩
    · have hR' : R t.row.toNat = (if t.s = [] then 0 else ((Pv.rk O ⟨1, t.s, 0, [], [], []⟩ : Nat) : Int) + 1) :: zs := hR
      rw [if_neg hs] at hR'
      have hw' : ∀ v ∈ (if t.s = [] then [] else [(⟨1, t.s, 0, [], [], []⟩ : Pv)]), v ∈ O := hw
      rw [if_neg hs] at hw'
      have hv := hw' _ (List.mem_singleton.2 rfl)
      refine ⟨{ t.blank with s := t.s }, by simp only [hT 1 1 _ hv rfl (.inr rfl) hR']; rfl, fun h => by omega, fun h => by omega, fun _ _ => rfl⟩
  · have hv := hw _ (List.mem_singleton.2 rfl)
    refine ⟨{ t.blank with s := t.s }, by simp only [hT 7 0 _ hv rfl (.inl rfl) (by rw [Int.add_zero]; exact hR)]; rfl, fun h => by omega, fun h => by omega, fun _ _ => rfl⟩
  · by_cases hs : t.s = []
    · have hR' : R t.row.toNat = (if t.s = [] then 0 else ((Pv.rk O ⟨7, t.s, 0, [], [], []⟩ : Nat) : Int) + 1) :: zs := hR
      rw [if_pos hs] at hR'
      refine ⟨{ t.blank with s := [] }, by simp only [hZ 7 hR']; rfl, fun h => by omega, fun h => by omega, fun _ _ => hs.symm⟩
    · have hR' : R t.row.toNat = (if t.s = [] then 0 else ((Pv.rk O ⟨7, t.s, 0, [], [], []⟩ : Nat) : Int) + 1) :: zs := hR
      rw [if_neg hs] at hR'
      have hw' : ∀ v ∈ (if t.s = [] then [] else [(⟨7, t.s, 0, [], [], []⟩ : Pv)]), v ∈ O := hw
      rw [if_neg hs] at hw'
      have hv := hw' _ (List.mem_singleton.2 rfl)
      refine ⟨{ t.blank with s := t.s }, by simp only [hT 7 1 _ hv rfl (.inr rfl) hR']; rfl, fun h => by omega, fun h => by omega, fun _ _ => rfl⟩
  · have hv := hw _ (List.mem_singleton.2 rfl)
    have hY : stepY true O R 0 t.blank.row t.blank.v.tag t.blank.v = (upd R t.row.toNat zs, 0, t.v) := by
      unfold stepY Th.blank
      rw [if_neg (by simp [hp])]
      simp only [if_true]
      have hg := get_v (v0 := ⟨t.v.tag, [], 0, [], [], []⟩) hv rfl hO (.inl rfl) (by rw [Int.add_zero]; exact hR) true
      rw [hg]
      simp
    refine ⟨{ t.blank with v := t.v }, by simp only [hY]; rfl, fun h => by omega, fun _ => rfl, fun _ h => absurd rfl h⟩
  · have hC : stepC true R 0 t.blank.row t.blank.n 1000 = (upd R t.row.toNat zs, 0, t.n) := by
      unfold stepC
      rw [hI _ hR]
      have := h6 rfl
      simp
      omega
    refine ⟨{ t.blank with n := t.n }, by simp only [hC]; rfl, fun _ => rfl, fun h => by omega, fun h => absurd (.inr rfl) h⟩
end
end Go.Proofs.Ytdmiljaiglaacaa

/- Rows of things of the call's own; what stands in a port's rows. -/
namespace Go.Proofs.Ytdmiljaiglaacaa
open Go.RowKit Go.Maps

def thc : List Th → List Value
  | [] => []
  | t :: l => (tcells t).toList ++ thc l
theorem tcells_len (t : Th) : (tcells t).toList.length = 10 := rfl
theorem thc_length : ∀ l : List Th, (thc l).length = l.length * 10
  | [] => rfl
  | t :: l => by simp only [thc, List.length_append, tcells_len, List.length_cons, thc_length l]; omega
theorem thc_one : ∀ l : List Th, ∀ u ∈ thc l, u.oneCell' = true
  | [], u, h => by simp [thc] at h
  | t :: l, u, h => by
    simp only [thc, List.mem_append] at h
    rcases h with h | h
    · simp only [tcells, List.mem_cons, List.not_mem_nil, or_false] at h
      rcases h with rfl | rfl | rfl | rfl | rfl | rfl | rfl | rfl | rfl | rfl <;> rfl
    · exact thc_one l u h
theorem thc_get : ∀ {l : List Th} {i : Nat} {t : Th} {k : Nat}, l[i]? = some t → k < 10 → (thc l)[i * 10 + k]? = (tcells t)[k]?
  | [], i, t, k, h, _ => by simp at h
  | q :: l, 0, t, k, h, hk => by
    simp at h
    subst h
    simp only [thc, Nat.zero_mul, Nat.zero_add]
    rw [List.getElem?_append_left (by rw [tcells_len]; exact hk), Array.getElem?_toList]
  | q :: l, i + 1, t, k, h, hk => by
    have := thc_get (l := l) (i := i) (t := t) (k := k) (by simpa using h) hk
    simp only [thc]
    rw [List.getElem?_append_right (by rw [tcells_len]; omega), tcells_len, show (i + 1) * 10 + k - 10 = i * 10 + k from by omega]
    exact this
theorem infoThing : (Try.prog.info? 30).map (fun i => (i.zero, i.size, i.bytes)) = some (some (tv Th.zero), 10, 120) := by kernel_rfl
def TRow (w : World) (base : Nat) (v : Value) (l : List Th) : Prop := w.ownsRow base 30 10 v l.length (thc l)
theorem tfresh0 {x : World} {B base : Nat} (h : x.heap[B]? = some (.cells #[] 30 (0, 0))) (hb : base ≤ B) : TRow x base (.slice (some ⟨B, 0, none⟩) 0 0) [] :=
  ⟨rfl, .inr ⟨B, 0, #[], rfl, hb, h, Nat.le_refl _, by unfold maxLen; omega, rfl, rfl⟩⟩
theorem TAt.get {w : World} {g o : Nat} {t : Th} (h : TAt w g o t) {k : Nat} (hk : k < 10) : w.cell? ⟨g, o + k, none⟩ = (tcells t)[k]? := by
  obtain ⟨⟨h0, h1, h2, h3⟩, h4, h5, h6, h7, h8, h9⟩ := h
  obtain rfl | rfl | rfl | rfl | rfl | rfl | rfl | rfl | rfl | rfl : k = 0 ∨ k = 1 ∨ k = 2 ∨ k = 3 ∨ k = 4 ∨ k = 5 ∨ k = 6 ∨ k = 7 ∨ k = 8 ∨ k = 9 := by omega
  all_goals assumption
theorem Ths.src {w : World} {A : Option Addr} {c : Nat} {l : List Th} (h : Ths w A c l) : Src Try.prog 10 22 (.slice A l.length c) l.length (thc l) w := by
  cases l with
  | nil =>
    cases A with
    | none => exact Src.ofNil w Try.underlying22 c
    | some a => exact Src.ofSlice w Try.underlying22 a 0 c [] rfl (fun j u hu => by simp at hu) (fun u hu => by cases hu)
  | cons y ys =>
    obtain ⟨g, o, rfl, hg, hc⟩ := h.2 (by simp)
    refine Src.ofSlice w Try.underlying22 ⟨g, o, none⟩ _ c _ (thc_length _) (fun j u hu => ?_) (thc_one _)
    have hj : j < (thc (y :: ys)).length := (List.getElem?_eq_some_iff.1 hu).1
    rw [thc_length] at hj
    have hi : j / 10 < (y :: ys).length := by omega
    have hx := List.getElem?_eq_getElem hi
    have h1 := thc_get (k := j % 10) hx (Nat.mod_lt _ (by decide))
    rw [show j / 10 * 10 + j % 10 = j by omega, hu] at h1
    have h2 := (hc _ _ hx).get (k := j % 10) (Nat.mod_lt _ (by decide))
    rw [← h1, show o + j / 10 * 10 + j % 10 = o + j by omega] at h2
    rw [off_addr]
    exact h2
theorem wpList_appT {w : World} {ops : Array Oper} {rest : List Oper} {o : Oper} {a : Act} {Q : Exit → Act → World → Prop} (hgd : o.guard = none) (s x : Operand)
    (ho : o.op = .call { callee := .builtin .append, args := #[s, x], argTypes := #[22, 22] })
    (base : Nat) (v : Value) (hv : a.eval s = v) (hown : TRow w base v []) (X : Value) (ys : List Th) (hX : a.eval x = X)
    (hs : Src Try.prog 10 22 X ys.length (thc ys) w) (hn : ys.length ≤ 1000000000) (hbase : base ≤ w.heap.size)
    (h : ∀ v' w', TRow w' base v' ys → Hop w w' v.ownBlock v'.ownBlock → wpList Try.prog ops Q rest (a.put o.dst v') w') : wpList Try.prog ops Q (o :: rest) a w := by
  obtain ⟨i0, hi, hz0, hz1, hz2⟩ := info_parts infoThing
  refine wpList_append_row hgd s x 22 22 ho base 30 i0 _ 10 120 Try.underlying22 hi hz0 hz1 hz2 rfl v 0 [] hv hown X ys.length (thc ys) hX (fun v' w' h1 h2 => h v' w' (by rw [Nat.zero_add, List.nil_append] at h1; exact h1) h2) hs ?_ ?_ hbase
  · unfold maxLen; omega
  · omega
/-- A block of things. -/
def TBlk (w : World) (g : Nat) (l : List Th) : Prop := ∃ cur : Array Value, w.heap[g]? = some (.cells cur 30 (0, 0)) ∧ ∀ i t k, l[i]? = some t → k < 10 → cur[i * 10 + k]? = (tcells t)[k]?
theorem TBlk.of {w : World} {base g n c : Nat} {l : List Th} (h : TRow w base (.slice (some ⟨g, 0, none⟩) n c) l) : TBlk w g l ∧ base ≤ g := by
  rcases h.2 with ⟨e, _⟩ | ⟨g', cap, cur, e, h1, h2, h3, h4, h5, h6⟩
  · cases e
  · cases e
    refine ⟨⟨cur, h2, fun i t k ht hk => ?_⟩, h1⟩
    have hil := (List.getElem?_eq_some_iff.1 ht).1
    have h7 := thc_get ht hk
    rw [← h6, List.getElem?_take_of_lt (by omega), Array.getElem?_toList] at h7
    exact h7
theorem TBlk.lt {w : World} {g : Nat} {l : List Th} (h : TBlk w g l) : g < w.heap.size := by
  obtain ⟨cur, h1, _⟩ := h
  exact (Array.getElem?_eq_some_iff.1 h1).1
theorem TBlk.same {w w' : World} {g : Nat} {l : List Th} (h : TBlk w g l) (k : w'.heap[g]? = w.heap[g]?) : TBlk w' g l := by
  obtain ⟨cur, h1, h2⟩ := h
  exact ⟨cur, k.trans h1, h2⟩
theorem TBlk.at_ {w : World} {g : Nat} {l : List Th} (h : TBlk w g l) {i : Nat} {t : Th} (ht : l[i]? = some t) : TAt w g (i * 10) t := by
  obtain ⟨cur, h1, h2⟩ := h
  have hc := fun k (hk : k < 10) => (cell_of_row w g (i * 10 + k) cur 30 (0, 0) h1).trans (h2 i t k ht hk)
  exact ⟨⟨hc 0 (by decide), hc 1 (by decide), hc 2 (by decide), hc 3 (by decide)⟩, hc 4 (by decide), hc 5 (by decide), hc 6 (by decide), hc 7 (by decide), hc 8 (by decide), hc 9 (by decide)⟩
theorem TBlk.frozen {w : World} {g : Nat} {l : List Th} (h : TBlk w g l) (j : Nat) : w.frozen? ⟨g, j, none⟩ = false := by
  obtain ⟨cur, h1, _⟩ := h
  exact (blk_facts h1).2 j
/-- A thing's row is stored anew. -/
theorem TBlk.set {w : World} {g : Nat} {l : List Th} (h : TBlk w g l) {i : Nat} {t : Th} (ht : l[i]? = some t) (r : Int) : TBlk (w.setCell ⟨g, i * 10 + 1, none⟩ (.int .i64 r)) g (l.set i { t with row := r }) := by
  obtain ⟨cur, h1, h2⟩ := h
  refine ⟨cur.setIfInBounds (i * 10 + 1) (.int .i64 r), heap_set h1 _, fun j u k hu hk => ?_⟩
  have hb : i * 10 + 1 < cur.size := (Array.getElem?_eq_some_iff.1 (h2 i t 1 ht (by decide))).1
  rw [Array.getElem?_setIfInBounds]
  rw [List.getElem?_set] at hu
  by_cases e : i = j
  · subst e
    rw [if_pos rfl, if_pos (List.getElem?_eq_some_iff.1 ht).1] at hu
    cases hu
    by_cases e2 : k = 1
    · subst e2
      rw [if_pos rfl, if_pos hb]
      rfl
    · rw [if_neg (by omega), h2 i t k ht hk]
      obtain rfl | rfl | rfl | rfl | rfl | rfl | rfl | rfl | rfl : k = 0 ∨ k = 2 ∨ k = 3 ∨ k = 4 ∨ k = 5 ∨ k = 6 ∨ k = 7 ∨ k = 8 ∨ k = 9 := by omega
      all_goals rfl
  · rw [if_neg e] at hu
    rw [if_neg (by omega)]
    exact h2 j u k hu hk
/-- What stands in the rows behind some things. -/
def rowsT (O : List Pv) (l : List Th) : Nat → List Int := fun k => (l.filter fun t => decide (t.row.toNat = k)).map (Th.num O)
theorem rowsT_nil (O : List Pv) : rowsT O [] = fun _ => [] := rfl
theorem rowsT_snoc {O : List Pv} {l : List Th} {i : Nat} {t : Th} (h : l[i]? = some t) : upd (rowsT O (l.take i)) t.row.toNat (rowsT O (l.take i) t.row.toNat ++ [t.num O]) = rowsT O (l.take (i + 1)) := by
  obtain ⟨h1, rfl⟩ := List.getElem?_eq_some_iff.1 h
  funext k
  unfold upd rowsT
  rw [List.take_succ_eq_append_getElem h1, List.filter_append, List.map_append]
  by_cases e : k = (l[i]).row.toNat
  · subst e
    rw [if_pos rfl]
    simp
  · rw [if_neg e]
    have e' : ¬ (l[i]).row.toNat = k := fun h => e h.symm
    simp [e']
theorem rowsT_next {O : List Pv} {l : List Th} {i : Nat} {t : Th} (h : l[i]? = some t) : rowsT O (l.drop i) t.row.toNat = t.num O :: rowsT O (l.drop (i + 1)) t.row.toNat ∧ upd (rowsT O (l.drop i)) t.row.toNat (rowsT O (l.drop (i + 1)) t.row.toNat) = rowsT O (l.drop (i + 1)) := by
  obtain ⟨h1, rfl⟩ := List.getElem?_eq_some_iff.1 h
  rw [List.drop_eq_getElem_cons h1]
  generalize List.drop (i + 1) l = r
  constructor
  · simp [rowsT]
  · funext k
    unfold upd rowsT
    by_cases e : k = (l[i]).row.toNat
    · subst e
      rw [if_pos rfl]
    · rw [if_neg e]
      have e' : ¬ (l[i]).row.toNat = k := fun h => e h.symm
      simp [e']
theorem rowsT_len (O : List Pv) (l : List Th) (k : Nat) : (rowsT O l k).length ≤ l.length := by
  unfold rowsT
  rw [List.length_map]
  exact List.length_filter_le ..
end Go.Proofs.Ytdmiljaiglaacaa

/- The walks of layer 28: an empty table; a value more. -/
namespace Go.Proofs.Ytdmiljaiglaacaa
open Go.RowKit Go.Maps

set_option maxRecDepth 100000 in
theorem start_any (w : World) : Calls Try.prog 23 #[] w fun e w' => ∃ us, e = .returned (.pointer (some ⟨w.heap.size + 1, 0, none⟩)) ∧ TabS w' w.heap.size (w.heap.size + 1) w.heap.size 0 us (fun _ => []) (fun _ => 0) (fun _ => false) ∧ Below w.heap.size w w' := by
  have hmm := @run_makeMap Try.prog
  have k0 := (Below.refl w.heap.size w).alloc (Nat.le_refl _) (.map #[] 0)
  have k1 := Lib.hid (k0.alloc k0.size (.cells #[.slice none 0 0, .slice none 0 0, .slice none 0 0, .slice none 0 0, .slice none 0 0, .slice none 0 0, .slice none 0 0, .slice none 0 0, .slice none 0 0, .slice none 0 0, .slice none 0 0, .slice none 0 0, .slice none 0 0, .map (some w.heap.size)] 89))
  have T := Lib.hid (show TabS ((w.alloc (.map #[] 0)).alloc (.cells #[.slice none 0 0, .slice none 0 0, .slice none 0 0, .slice none 0 0, .slice none 0 0, .slice none 0 0, .slice none 0 0, .slice none 0 0, .slice none 0 0, .slice none 0 0, .slice none 0 0, .slice none 0 0, .slice none 0 0, .map (some w.heap.size)] 89)) w.heap.size (w.heap.size + 1) w.heap.size 0 (fun _ => .slice none 0 0) (fun _ => []) (fun _ => 0) (fun _ => false) from
    ⟨⟨_, heap_alloc2_new w (.map #[] 0) _, rfl, (fun t ht => by
      obtain rfl | rfl | rfl | rfl | rfl | rfl | rfl | rfl | rfl | rfl | rfl | rfl | rfl : t = 0 ∨ t = 1 ∨ t = 2 ∨ t = 3 ∨ t = 4 ∨ t = 5 ∨ t = 6 ∨ t = 7 ∨ t = 8 ∨ t = 9 ∨ t = 10 ∨ t = 11 ∨ t = 12 := by omega
      all_goals rfl), rfl⟩, fun t _ => VRow.nil _ _, (fun s t _ _ _ k hk => by cases hk), (VTab.made w).grow ((Below.refl _ _).alloc (Nat.le_refl _) _), by omega, Nat.le_refl _⟩)
  clear k0
  go_enter Try.func23, Try.ntmps23
  go_wp2
  go_ret
  exact ⟨_, rfl, T.out, k1.out⟩
set_option maxRecDepth 100000 in
set_option maxHeartbeats 4000000 in
theorem add_aux (base b m n t : Nat) (us : Nat → Value) (R : Nat → List Pv) (f : Pv → Int) (S : Pv → Bool) (text : List UInt8) (bits : Nat) (cls name desc : List UInt8) (v : Pv) (he : v = ⟨(t : Int), text, bits, cls, name, desc⟩) (w : World) (h : TabS w base b m n us R f S) (hv : v.fits) (ht2 : 1 ≤ t ∧ t ≤ 12) (hn : n ≤ 1000000) (hl : (R t).length ≤ 1000000) :
    Calls Try.prog 27 #[.pointer (some ⟨b, 0, none⟩), .agg #[.int .i64 t, .string (bs text), .int .u64 bits, .string (bs cls), .string (bs name), .string (bs desc)]] w fun e w' => e = .returned (.tuple #[]) ∧ (∃ us', TabS w' base b m (n + 1) us' (fun k => if k = t then R t ++ [v] else R k) (fun u => if u = v then ((R t).length : Int) else f u) (fun u => decide (u = v) || S u) ∧ ∀ s k, (us' s).ownBlock = some k → (us s).ownBlock = some k ∨ w.heap.size ≤ k) ∧ (∀ k, k < w.heap.size → k ≠ b → k ≠ m → (us t).ownBlock ≠ some k → w'.heap[k]? = w.heap[k]?) ∧ Below base w w' := by
  have k0 := Lib.hid ((Below.refl w.heap.size w).alloc (Nat.le_refl _) (.cells #[.int .i64 t, .string (bs text), .int .u64 bits, .string (bs cls), .string (bs name), .string (bs desc)] 28))
  have q0 := Lib.hid (vbox_new w ⟨(t : Int), text, bits, cls, name, desc⟩)
  have HE := Lib.hid he
  clear he
  have T0 := Lib.hid (h.grow k0.out)
  have hwb : base ≤ w.heap.size := Nat.le_trans h.hb (Nat.le_of_lt h.box.lt)
  have htl : t < 13 := by omega
  have HLT := Lib.hid (fun k (hk : (us t).ownBlock = some k) => (World.ownsRow.lt (h.rows t htl) k hk).2)
  clear h
  go_enter Try.func27, Try.ntmps27
  go_wp2_with fail
  generalize w.alloc (.cells #[.int .i64 t, .string (bs text), .int .u64 bits, .string (bs cls), .string (bs name), .string (bs desc)] 28) = W at k0 q0 T0 ⊢
  obtain ⟨A, c, eu, hV0, hA0⟩ := (T0.out.rows t htl).reads
  clear hV0 hA0
  have m1 := T0.out.box.map
  have r1 := T0.out.box.cell htl
  rw [eu] at r1
  obtain ⟨d0, d1, d2, d3, d4, d5⟩ := q0.out.at_
  dsimp only at d0 d1 d2 d3 d4 d5
  have hz := q0.out.lt
  have hbz := T0.out.box.lt
  have i1 : (t : Int) < 13 := by omega
  have i2 : decide (t < 13) = true := decide_eq_true htl
  have EU := Lib.hid eu
  clear eu
  refine wp_region_draw_tail 13 (by kernel_rfl) (by kernel_rfl) ?_
  simp only [List.take_succ_cons, List.take_zero, List.drop_succ_cons, List.drop_zero]
  repeat (go_big_quiet_step (fail))
  refine wpQuiet_nil ?_
  intro q1
  obtain ⟨x4, e4⟩ : ∃ x4, x4 = W.drewN q1 := ⟨_, rfl⟩
  have T4 := Lib.hid (show TabS x4 base b m n us R f S from by rw [e4]; exact T0.out.grow (below_drewN (Below.refl _ _) q1))
  have q4 := Lib.hid (show VBox x4 w.heap.size ⟨(t : Int), text, bits, cls, name, desc⟩ from by rw [e4]; exact q0.out)
  have k4 := Lib.hid (show Below w.heap.size w x4 from by rw [e4]; exact below_drewN k0.out q1)
  rw [← e4]
  have hvv : Value.agg #[.int .i64 (t : Int), .string (bs text), .int .u64 bits, .string (bs cls), .string (bs name), .string (bs desc)] = vv v := by rw [HE.out]; rfl
  have HVV := Lib.hid hvv
  have HI := Lib.hid (show I64 ((R t).length : Int) by unfold I64; omega)
  have HNM := Lib.hid (show n < maxLen by unfold maxLen; omega)
  have HFK := Lib.hid hv.k
  clear e4 d0 d1 d2 d3 d4 d5 hz hbz m1 r1 T0 q0 k0 hvv
  go_wp2_with (at_mapUpdate; refine wpList_tabPut rfl _ _ _ rfl m n f S v (R t).length rfl T4.out.num HNM.out HFK.out HVV.out rfl HI.out ?_; intro x5 hn5 hg5)
  have T5 := Lib.hid (T4.out.nums hn5 hg5)
  have hm5 : m ≠ w.heap.size := T4.out.num.ne q4.out
  have q5 := Lib.hid ((hg5.block _ q4.out.lt (fun e => hm5 (Option.some.inj e).symm)).trans q4.out)
  have k5 := Lib.hid (show Below base w x5 from (k4.out.mono hwb).grown hg5 (Nat.le_trans hwb k4.out.size) (fun j hj => by cases hj; exact T4.out.hm))
  have H5 := Lib.hid (show ∀ k, k < w.heap.size → k ≠ m → x5.heap[k]? = w.heap[k]? from fun k hk hm => (hg5.block k (Nat.lt_of_lt_of_le hk k4.out.size) (fun e => hm (Option.some.inj e))).trans (k4.out.block k hk))
  have hw5 : w.heap.size ≤ x5.heap.size := Nat.le_trans k4.out.size hg5.size
  clear hn5 hg5 hm5 T4 q4 k4
  have hrw := T5.out.rows t htl
  have hcl := T5.out.box.cell htl
  rw [EU.out] at hrw hcl
  have RW := Lib.hid hrw
  have hfz := T5.out.box.frozen t
  have hbz := T5.out.box.lt
  obtain ⟨d0, d1, d2, d3, d4, d5⟩ := VBox.at_ (v := ⟨(t : Int), text, bits, cls, name, desc⟩) q5.out
  dsimp only at d0 d1 d2 d3 d4 d5
  have hz : w.heap.size < x5.heap.size := (Array.getElem?_eq_some_iff.1 q5.out).1
  clear hrw
  have HSRC := Lib.hid (fun (y : World) (B : Nat) (hb : y.heap[B]? = some (.cells #[.int .i64 (t : Int), .string (bs text), .int .u64 bits, .string (bs cls), .string (bs name), .string (bs desc)] 28 (0, 0))) => (show Src Try.prog 6 25 (.slice (some ⟨B, 0, none⟩) 1 1) 1 (vc [v]) y from by
    rw [HE.out]
    exact src_val (v := ⟨(t : Int), text, bits, cls, name, desc⟩) hb 1))
  have FA := Lib.hid (show ∀ (v7 : Value) (x7 : World), VRow x7 base v7 (R t ++ [v]) → Hop (x5.drew.alloc (.cells #[.int .i64 (t : Int), .string (bs text), .int .u64 bits, .string (bs cls), .string (bs name), .string (bs desc)] 28)) x7 (Value.slice A (R t).length c).ownBlock v7.ownBlock →
      (x7.cell? ⟨b, t, none⟩ = some (.slice A (R t).length c) ∧ x7.frozen? ⟨b, t, none⟩ = false ∧ b < x7.heap.size ∧ x7.cell? ⟨w.heap.size, 0, none⟩ = some (.int .i64 (t : Int)) ∧ w.heap.size < x7.heap.size) ∧ ∃ A7 d7, v7 = .slice A7 ((R t).length + 1) d7 from fun v7 x7 hr7 hp7 => by
    have hx7 : Below x5.heap.size x5 (x5.drew.alloc (.cells #[.int .i64 (t : Int), .string (bs text), .int .u64 bits, .string (bs cls), .string (bs name), .string (bs desc)] 28)) := (Below.refl _ _).drew.alloc (Nat.le_refl _) _
    have hb7 : TBox x7 b us m := TBox.kept (T5.out.box.keep hx7 T5.out.box.lt) hp7.1 ((T5.out.box.keep hx7 T5.out.box.lt).apart (RW.out.grow hx7) rfl)
    have c7 := hb7.cell htl
    rw [EU.out] at c7
    have q7 := (hp7.1.block w.heap.size (by simp; omega) (fun e => by
      have h1 := HLT.out w.heap.size (by rw [EU.out]; exact e.symm)
      omega)).trans (VBox.keep (v := ⟨(t : Int), text, bits, cls, name, desc⟩) q5.out hx7 hz)
    obtain ⟨A7, d7, e7, _, _⟩ := hr7.reads
    rw [List.length_append] at e7
    exact ⟨⟨c7, hb7.frozen t, hb7.lt, (VBox.at_ (v := ⟨(t : Int), text, bits, cls, name, desc⟩) q7).1, (Array.getElem?_eq_some_iff.1 q7).1⟩, A7, d7, e7⟩)
  go_region_law ((refine step_appV rfl _ _ rfl base _ (R t) rfl (RW.out.grow (by (repeat (first | exact Below.refl _ _ | refine Below.drew ?_ | refine Below.alloc ?_ ?_ _)); (all_goals (first | omega | (simp; done) | (simp; omega))))) _ [v] rfl (HSRC.out _ _ (heap_alloc_new _ _)) (by simp; omega) (by first | exact k5.out.size | (have := k5.out.size; simp; omega)) ?_; intro v7 x7 hr7 hp7; obtain ⟨⟨c7, f7, z7, g0, gz⟩, A7, d7, e7⟩ := FA.out v7 x7 hr7 hp7; subst e7))
  all_goals
    have hx7 : Below x5.heap.size x5 (x5.drew.alloc (.cells #[.int .i64 (t : Int), .string (bs text), .int .u64 bits, .string (bs cls), .string (bs name), .string (bs desc)] 28)) := (Below.refl _ _).drew.alloc (Nat.le_refl _) _
    have hp8 := hp7
    rw [← EU.out] at hp8
    have TF := Lib.hid ((T5.out.grow hx7).put htl hr7 hp8)
    have BF := Lib.hid (show Below base w (x7.setCell ⟨b, t, none⟩ (.slice A7 ((R t).length + 1) d7)) from ((k5.out.trans (hx7.mono (Nat.le_trans hwb k5.out.size))).trans (hp7.below (Nat.le_trans (Nat.le_trans hwb k5.out.size) hx7.size) (fun k hk => RW.out.base_le hk))).setCell (p := ⟨b, t, none⟩) T5.out.hb _)
    have FR := Lib.hid (show ∀ k, k < w.heap.size → k ≠ b → k ≠ m → (us t).ownBlock ≠ some k → (x7.setCell ⟨b, t, none⟩ (.slice A7 ((R t).length + 1) d7)).heap[k]? = w.heap[k]? from fun k hk hkb hkm hku => by
      have hb7 : TBox x7 b us m := TBox.kept (T5.out.box.keep hx7 T5.out.box.lt) hp7.1 ((T5.out.box.keep hx7 T5.out.box.lt).apart (RW.out.grow hx7) rfl)
      have h1 : k < x5.heap.size := Nat.lt_of_lt_of_le hk hw5
      have h2 := Nat.lt_of_lt_of_le h1 hx7.size
      refine ((hb7.turned t _).block k (Nat.lt_of_lt_of_le h2 hp7.1.size) (fun e => hkb (Option.some.inj e))).trans ((hp7.1.block k h2 (fun e => hku (by rw [EU.out]; exact e.symm))).trans ((hx7.block k h1).trans (H5.out k hk hkm)))
      )
    have NU := Lib.hid (show ∀ s k, ((fun s => if s = t then Value.slice A7 ((R t).length + 1) d7 else us s) s).ownBlock = some k → (us s).ownBlock = some k ∨ w.heap.size ≤ k from fun s k hk => by
      dsimp only at hk
      by_cases e : s = t
      · subst e
        rw [if_pos rfl] at hk
        rcases hp8.2 with h2 | ⟨q, hq, h2⟩
        · exact .inl (h2 ▸ hk)
        · rw [h2] at hk
          cases hk
          exact .inr (Nat.le_trans hw5 (Nat.le_trans hx7.size hq))
      · rw [if_neg e] at hk
        exact .inl hk)
    clear hx7 hp8 hr7 hp7 FA HSRC c7 f7 z7 g0 gz d0 d1 d2 d3 d4 d5 hz hbz hfz hcl
    go_wp2_with fail
    go_end0
    exact ⟨rfl, ⟨_, TF.out, NU.out⟩, FR.out, BF.out⟩
/-- A value more. -/
theorem add_any (base b m n t : Nat) (us : Nat → Value) (R : Nat → List Pv) (f : Pv → Int) (S : Pv → Bool) (v : Pv) (w : World) (h : TabS w base b m n us R f S) (hv : v.fits) (ht : v.tag = (t : Int)) (ht2 : 1 ≤ t ∧ t ≤ 12) (hn : n ≤ 1000000) (hl : (R t).length ≤ 1000000) :
    Calls Try.prog 27 #[.pointer (some ⟨b, 0, none⟩), vv v] w fun e w' => e = .returned (.tuple #[]) ∧ (∃ us', TabS w' base b m (n + 1) us' (fun k => if k = t then R t ++ [v] else R k) (fun u => if u = v then ((R t).length : Int) else f u) (fun u => decide (u = v) || S u) ∧ ∀ s k, (us' s).ownBlock = some k → (us s).ownBlock = some k ∨ w.heap.size ≤ k) ∧ (∀ k, k < w.heap.size → k ≠ b → k ≠ m → (us t).ownBlock ≠ some k → w'.heap[k]? = w.heap[k]?) ∧ Below base w w' := by
  have h1 := add_aux base b m n t us R f S v.text v.bits v.cls v.name v.desc v (by rw [← ht]) w h hv ht2 hn hl
  unfold vv
  rw [ht]
  exact h1
end Go.Proofs.Ytdmiljaiglaacaa
