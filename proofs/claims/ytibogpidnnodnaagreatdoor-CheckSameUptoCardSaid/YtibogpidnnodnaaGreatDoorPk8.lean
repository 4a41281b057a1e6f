/- Joined texts: EqualT, EqualI, SameI, TellB, Room, TellC. -/
import Derived.Test.YtibogpidnnodnaaGreatDoorPk7
import Derived.Test.YtibogpidnnodnaaGreatDoorPk1
import Derived.Test.YtibogpidnnodnaaGreatDoorPk5
/- slices.Equal of handlers, slots, inner classes. Printed by mk_equal.py. -/
namespace Go.Proofs.YtibogpidnnodnaaGreatDoor
open Go.RowKit

def Hnd.eqb (a b : Hnd) : Bool := decide (a.from_ = b.from_) && decide (a.till = b.till) && decide (a.to = b.to) && decide (a.kind = b.kind)
theorem Hnd.eqb_iff {a b : Hnd} : a.eqb b = true ↔ a = b := by
  cases a; cases b
  simp [Hnd.eqb, and_assoc]
set_option maxHeartbeats 1000000 in
theorem eq_hnd (a b : Hnd) (x : World) : (Op.equalIn 10000 116 (.agg #[.int .i64 a.from_, .int .i64 a.till, .int .i64 a.to, .string (bs a.kind)]) (.agg #[.int .i64 b.from_, .int .i64 b.till, .int .i64 b.to, .string (bs b.kind)])).run Tryz.prog x = .ok (a.eqb b) x := by
  have q3 := bs_beq a.kind b.kind
  rw [show (10000 : Nat) = 9999 + 1 from rfl]
  unfold Hnd.eqb
  go_simp
  by_cases h0 : a.from_ = b.from_ <;> by_cases h1 : a.till = b.till <;> by_cases h2 : a.to = b.to <;> by_cases h3 : a.kind = b.kind <;> simp [h0, h1, h2, h3]
set_option maxHeartbeats 4000000 in
set_option maxRecDepth 100000 in
theorem eqh_any (A B : Option Addr) (c d : Nat) (xs ys : List Hnd) (w : World) (ha : Sl 4 Hnd.rd w A c xs) (hb : Sl 4 Hnd.rd w B d ys) (hn : xs.length ≤ 140737488355328) (_hm : ys.length ≤ 140737488355328) :
    Calls Tryz.prog 85 #[.slice A xs.length c, .slice B ys.length d] w fun e w' => TellsB (xs = ys) e ∧ Below w.heap.size w w' := by
  have HA := Lib.hid ha
  have HB := Lib.hid hb
  clear ha hb
  by_cases hl : xs.length = ys.length
  · have hl2 : ((xs.length : Int) != (ys.length : Int)) = false := by simp [hl]
    go_enter Tryz.func85, Tryz.ntmps85
    go_upto_region 4 with fail
    go_loopw [13] (fun s13 wr => ∃ i : Nat, i ≤ xs.length ∧ s13 = .int .i64 i ∧ xs.take i = ys.take i ∧ Below w.heap.size w wr) (fun s13 _ => xs.length - (intOf s13).toNat)
    case atStart => exact ⟨0, Nat.zero_le _, rfl, rfl, Below.refl _ _⟩
    case round =>
      obtain ⟨i, hil, rfl, he, hK⟩ := hrel
      have K := Lib.hid hK
      have HE := Lib.hid he
      by_cases h1 : i < xs.length
      · obtain ⟨g, o, x, cx, rfl, hg, hx, hrx, _, hcx⟩ := HA.out.at_ h1
        obtain ⟨g2, o2, y, cy, rfl, hg2, hy, hry, _, hcy⟩ := HB.out.at_ (show i < ys.length by omega)
        have HCX := Lib.hid (hcx.grow hK hg)
        have HCY := Lib.hid (hcy.grow hK hg2)
        obtain rfl := Hnd.leafs hrx
        obtain rfl := Hnd.leafs hry
        have c0 := HCX.out 0 _ rfl
        have c1 := HCX.out 1 _ rfl
        have c2 := HCX.out 2 _ rfl
        have c3 := HCX.out 3 _ rfl
        have e0 := HCY.out 0 _ rfl
        have e1 := HCY.out 1 _ rfl
        have e2 := HCY.out 2 _ rfl
        have e3 := HCY.out 3 _ rfl
        rw [Nat.add_zero] at c0 e0
        have z1 : g < wr.heap.size := Nat.lt_of_lt_of_le hg hK.size
        have z2 : g2 < wr.heap.size := Nat.lt_of_lt_of_le hg2 hK.size
        have i1 : ¬ ((i : Int) < 0) := by omega
        have i2 : (i : Int) < (xs.length : Int) := by omega
        have i3 : (i : Int) < (ys.length : Int) := by omega
        have HX := Lib.hid hx
        have HY := Lib.hid hy
        have heq := fun q => eq_hnd x y q
        clear hK he hl hx hy hcx hcy hrx hry hg hg2 hl2
        cases hxy : x.eqb y with
        | true =>
          have HT := Lib.hid (take_same HE.out HX.out (by rw [Hnd.eqb_iff.1 hxy]; exact HY.out))
          rw [hxy] at heq
          go_upto_region 6 with fail
          go_quiet (fail)
          go_wp2_with fail
          exact ⟨⟨i + 1, h1, rfl, HT.out, below_drewN K.out _⟩, next_less h1⟩
        | false =>
          have HN := Lib.hid (not_same HX.out HY.out (fun e => by rw [Hnd.eqb_iff.2 e] at hxy; cases hxy))
          rw [hxy] at heq
          go_upto_region 6 with fail
          go_quiet (fail)
          go_wp2_with fail
          go_ret
          exact ⟨⟨false, rfl, fun h => (by cases h), fun h => absurd h HN.out⟩, below_drewN K.out _⟩
      · have hie : i = xs.length := by omega
        have hxe : xs = ys := by
          rw [hie, List.take_length, hl, List.take_length] at he
          exact he
        have HN := Lib.hid hxe
        have h1b : ¬ i < ys.length := by omega
        clear hK he hl hxe hl2 hie
        go_wp2_with fail
        go_ret
        exact ⟨⟨true, rfl, fun _ => HN.out, fun _ => rfl⟩, K.out⟩
  · have hl2 : ((xs.length : Int) != (ys.length : Int)) = true := by simp; omega
    have HN := Lib.hid (show xs ≠ ys from fun e => hl (by rw [e]))
    clear hl
    go_enter Tryz.func85, Tryz.ntmps85
    go_wp2_with fail
    go_ret
    exact ⟨⟨false, rfl, fun h => (by cases h), fun h => absurd h HN.out⟩, Below.refl _ _⟩
def Slt.eqb (a b : Slt) : Bool := decide (a.from_ = b.from_) && decide (a.till = b.till) && decide (a.name = b.name) && decide (a.desc = b.desc) && decide (a.var = b.var)
theorem Slt.eqb_iff {a b : Slt} : a.eqb b = true ↔ a = b := by
  cases a; cases b
  simp [Slt.eqb, and_assoc]
set_option maxHeartbeats 1000000 in
theorem eq_slt (a b : Slt) (x : World) : (Op.equalIn 10000 122 (.agg #[.int .i64 a.from_, .int .i64 a.till, .string (bs a.name), .string (bs a.desc), .int .i64 a.var]) (.agg #[.int .i64 b.from_, .int .i64 b.till, .string (bs b.name), .string (bs b.desc), .int .i64 b.var])).run Tryz.prog x = .ok (a.eqb b) x := by
  have q2 := bs_beq a.name b.name
  have q3 := bs_beq a.desc b.desc
  rw [show (10000 : Nat) = 9999 + 1 from rfl]
  unfold Slt.eqb
  go_simp
  by_cases h0 : a.from_ = b.from_ <;> by_cases h1 : a.till = b.till <;> by_cases h2 : a.name = b.name <;> by_cases h3 : a.desc = b.desc <;> by_cases h4 : a.var = b.var <;> simp [h0, h1, h2, h3, h4]
set_option maxHeartbeats 4000000 in
set_option maxRecDepth 100000 in
theorem eqt_any (A B : Option Addr) (c d : Nat) (xs ys : List Slt) (w : World) (ha : Sl 5 Slt.rd w A c xs) (hb : Sl 5 Slt.rd w B d ys) (hn : xs.length ≤ 140737488355328) (_hm : ys.length ≤ 140737488355328) :
    Calls Tryz.prog 87 #[.slice A xs.length c, .slice B ys.length d] w fun e w' => TellsB (xs = ys) e ∧ Below w.heap.size w w' := by
  have HA := Lib.hid ha
  have HB := Lib.hid hb
  clear ha hb
  by_cases hl : xs.length = ys.length
  · have hl2 : ((xs.length : Int) != (ys.length : Int)) = false := by simp [hl]
    go_enter Tryz.func87, Tryz.ntmps87
    go_upto_region 4 with fail
    go_loopw [13] (fun s13 wr => ∃ i : Nat, i ≤ xs.length ∧ s13 = .int .i64 i ∧ xs.take i = ys.take i ∧ Below w.heap.size w wr) (fun s13 _ => xs.length - (intOf s13).toNat)
    case atStart => exact ⟨0, Nat.zero_le _, rfl, rfl, Below.refl _ _⟩
    case round =>
      obtain ⟨i, hil, rfl, he, hK⟩ := hrel
      have K := Lib.hid hK
      have HE := Lib.hid he
      by_cases h1 : i < xs.length
      · obtain ⟨g, o, x, cx, rfl, hg, hx, hrx, _, hcx⟩ := HA.out.at_ h1
        obtain ⟨g2, o2, y, cy, rfl, hg2, hy, hry, _, hcy⟩ := HB.out.at_ (show i < ys.length by omega)
        have HCX := Lib.hid (hcx.grow hK hg)
        have HCY := Lib.hid (hcy.grow hK hg2)
        obtain rfl := Slt.leafs hrx
        obtain rfl := Slt.leafs hry
        have c0 := HCX.out 0 _ rfl
        have c1 := HCX.out 1 _ rfl
        have c2 := HCX.out 2 _ rfl
        have c3 := HCX.out 3 _ rfl
        have c4 := HCX.out 4 _ rfl
        have e0 := HCY.out 0 _ rfl
        have e1 := HCY.out 1 _ rfl
        have e2 := HCY.out 2 _ rfl
        have e3 := HCY.out 3 _ rfl
        have e4 := HCY.out 4 _ rfl
        rw [Nat.add_zero] at c0 e0
        have z1 : g < wr.heap.size := Nat.lt_of_lt_of_le hg hK.size
        have z2 : g2 < wr.heap.size := Nat.lt_of_lt_of_le hg2 hK.size
        have i1 : ¬ ((i : Int) < 0) := by omega
        have i2 : (i : Int) < (xs.length : Int) := by omega
        have i3 : (i : Int) < (ys.length : Int) := by omega
        have HX := Lib.hid hx
        have HY := Lib.hid hy
        have heq := fun q => eq_slt x y q
        clear hK he hl hx hy hcx hcy hrx hry hg hg2 hl2
        cases hxy : x.eqb y with
        | true =>
          have HT := Lib.hid (take_same HE.out HX.out (by rw [Slt.eqb_iff.1 hxy]; exact HY.out))
          rw [hxy] at heq
          go_upto_region 6 with fail
          go_quiet (fail)
          go_wp2_with fail
          exact ⟨⟨i + 1, h1, rfl, HT.out, below_drewN K.out _⟩, next_less h1⟩
        | false =>
          have HN := Lib.hid (not_same HX.out HY.out (fun e => by rw [Slt.eqb_iff.2 e] at hxy; cases hxy))
          rw [hxy] at heq
          go_upto_region 6 with fail
          go_quiet (fail)
          go_wp2_with fail
          go_ret
          exact ⟨⟨false, rfl, fun h => (by cases h), fun h => absurd h HN.out⟩, below_drewN K.out _⟩
      · have hie : i = xs.length := by omega
        have hxe : xs = ys := by
          rw [hie, List.take_length, hl, List.take_length] at he
          exact he
        have HN := Lib.hid hxe
        have h1b : ¬ i < ys.length := by omega
        clear hK he hl hxe hl2 hie
        go_wp2_with fail
        go_ret
        exact ⟨⟨true, rfl, fun _ => HN.out, fun _ => rfl⟩, K.out⟩
  · have hl2 : ((xs.length : Int) != (ys.length : Int)) = true := by simp; omega
    have HN := Lib.hid (show xs ≠ ys from fun e => hl (by rw [e]))
    clear hl
    go_enter Tryz.func87, Tryz.ntmps87
    go_wp2_with fail
    go_ret
    exact ⟨⟨false, rfl, fun h => (by cases h), fun h => absurd h HN.out⟩, Below.refl _ _⟩
def Inr.eqb (a b : Inr) : Bool := decide (a.cls = b.cls) && decide (a.outer = b.outer) && decide (a.name = b.name) && decide (a.flags = b.flags)
theorem Inr.eqb_iff {a b : Inr} : a.eqb b = true ↔ a = b := by
  cases a; cases b
  simp [Inr.eqb, and_assoc]
set_option maxHeartbeats 1000000 in
theorem eq_inr (a b : Inr) (x : World) : (Op.equalIn 10000 86 (.agg #[.string (bs a.cls), .string (bs a.outer), .string (bs a.name), .int .i64 a.flags]) (.agg #[.string (bs b.cls), .string (bs b.outer), .string (bs b.name), .int .i64 b.flags])).run Tryz.prog x = .ok (a.eqb b) x := by
  have q0 := bs_beq a.cls b.cls
  have q1 := bs_beq a.outer b.outer
  have q2 := bs_beq a.name b.name
  rw [show (10000 : Nat) = 9999 + 1 from rfl]
  unfold Inr.eqb
  go_simp
  by_cases h0 : a.cls = b.cls <;> by_cases h1 : a.outer = b.outer <;> by_cases h2 : a.name = b.name <;> by_cases h3 : a.flags = b.flags <;> simp [h0, h1, h2, h3]
set_option maxHeartbeats 4000000 in
set_option maxRecDepth 100000 in
theorem eqn_any (A B : Option Addr) (c d : Nat) (xs ys : List Inr) (w : World) (ha : Sl 4 Inr.rd w A c xs) (hb : Sl 4 Inr.rd w B d ys) (hn : xs.length ≤ 140737488355328) (_hm : ys.length ≤ 140737488355328) :
    Calls Tryz.prog 47 #[.slice A xs.length c, .slice B ys.length d] w fun e w' => TellsB (xs = ys) e ∧ Below w.heap.size w w' := by
  have HA := Lib.hid ha
  have HB := Lib.hid hb
  clear ha hb
  by_cases hl : xs.length = ys.length
  · have hl2 : ((xs.length : Int) != (ys.length : Int)) = false := by simp [hl]
    go_enter Tryz.func47, Tryz.ntmps47
    go_upto_region 4 with fail
    go_loopw [13] (fun s13 wr => ∃ i : Nat, i ≤ xs.length ∧ s13 = .int .i64 i ∧ xs.take i = ys.take i ∧ Below w.heap.size w wr) (fun s13 _ => xs.length - (intOf s13).toNat)
    case atStart => exact ⟨0, Nat.zero_le _, rfl, rfl, Below.refl _ _⟩
    case round =>
      obtain ⟨i, hil, rfl, he, hK⟩ := hrel
      have K := Lib.hid hK
      have HE := Lib.hid he
      by_cases h1 : i < xs.length
      · obtain ⟨g, o, x, cx, rfl, hg, hx, hrx, _, hcx⟩ := HA.out.at_ h1
        obtain ⟨g2, o2, y, cy, rfl, hg2, hy, hry, _, hcy⟩ := HB.out.at_ (show i < ys.length by omega)
        have HCX := Lib.hid (hcx.grow hK hg)
        have HCY := Lib.hid (hcy.grow hK hg2)
        obtain rfl := Inr.leafs hrx
        obtain rfl := Inr.leafs hry
        have c0 := HCX.out 0 _ rfl
        have c1 := HCX.out 1 _ rfl
        have c2 := HCX.out 2 _ rfl
        have c3 := HCX.out 3 _ rfl
        have e0 := HCY.out 0 _ rfl
        have e1 := HCY.out 1 _ rfl
        have e2 := HCY.out 2 _ rfl
        have e3 := HCY.out 3 _ rfl
        rw [Nat.add_zero] at c0 e0
        have z1 : g < wr.heap.size := Nat.lt_of_lt_of_le hg hK.size
        have z2 : g2 < wr.heap.size := Nat.lt_of_lt_of_le hg2 hK.size
        have i1 : ¬ ((i : Int) < 0) := by omega
        have i2 : (i : Int) < (xs.length : Int) := by omega
        have i3 : (i : Int) < (ys.length : Int) := by omega
        have HX := Lib.hid hx
        have HY := Lib.hid hy
        have heq := fun q => eq_inr x y q
        clear hK he hl hx hy hcx hcy hrx hry hg hg2 hl2
        cases hxy : x.eqb y with
        | true =>
          have HT := Lib.hid (take_same HE.out HX.out (by rw [Inr.eqb_iff.1 hxy]; exact HY.out))
          rw [hxy] at heq
          go_upto_region 6 with fail
          go_quiet (fail)
          go_wp2_with fail
          exact ⟨⟨i + 1, h1, rfl, HT.out, below_drewN K.out _⟩, next_less h1⟩
        | false =>
          have HN := Lib.hid (not_same HX.out HY.out (fun e => by rw [Inr.eqb_iff.2 e] at hxy; cases hxy))
          rw [hxy] at heq
          go_upto_region 6 with fail
          go_quiet (fail)
          go_wp2_with fail
          go_ret
          exact ⟨⟨false, rfl, fun h => (by cases h), fun h => absurd h HN.out⟩, below_drewN K.out _⟩
      · have hie : i = xs.length := by omega
        have hxe : xs = ys := by
          rw [hie, List.take_length, hl, List.take_length] at he
          exact he
        have HN := Lib.hid hxe
        have h1b : ¬ i < ys.length := by omega
        clear hK he hl hxe hl2 hie
        go_wp2_with fail
        go_ret
        exact ⟨⟨true, rfl, fun _ => HN.out, fun _ => rfl⟩, K.out⟩
  · have hl2 : ((xs.length : Int) != (ys.length : Int)) = true := by simp; omega
    have HN := Lib.hid (show xs ≠ ys from fun e => hl (by rw [e]))
    clear hl
    go_enter Tryz.func47, Tryz.ntmps47
    go_wp2_with fail
    go_ret
    exact ⟨⟨false, rfl, fun h => (by cases h), fun h => absurd h HN.out⟩, Below.refl _ _⟩
end Go.Proofs.YtibogpidnnodnaaGreatDoor

/- slices.Equal of numbers. -/
namespace Go.Proofs.YtibogpidnnodnaaGreatDoor
open Go.RowKit
set_option maxHeartbeats 4000000 in
set_option maxRecDepth 100000 in
theorem eqi_any (A B : Option Addr) (c d : Nat) (xs ys : List Int) (w : World) (ha : Ints w A c xs) (hb : Ints w B d ys) (hn : xs.length ≤ 140737488355328) (_hm : ys.length ≤ 140737488355328) :
    Calls Tryz.prog 114 #[.slice A xs.length c, .slice B ys.length d] w fun e w' => e = .returned (.bool (decide (xs = ys))) ∧ Below w.heap.size w w' := by
  have HA := Lib.hid ha
  have HB := Lib.hid hb
  clear ha hb
  by_cases hl : xs.length = ys.length
  · have hl2 : ((xs.length : Int) != (ys.length : Int)) = false := by simp [hl]
    go_enter Tryz.func114, Tryz.ntmps114
    go_upto_region 4 with fail
    go_loopw [13] (fun s13 wr => ∃ i : Nat, i ≤ xs.length ∧ s13 = .int .i64 i ∧ xs.take i = ys.take i ∧ Below w.heap.size w wr) (fun s13 _ => xs.length - (intOf s13).toNat)
    case atStart => exact ⟨0, Nat.zero_le _, rfl, rfl, Below.refl _ _⟩
    case round =>
      obtain ⟨i, hil, rfl, he, hK⟩ := hrel
      have K := Lib.hid hK
      have HE := Lib.hid he
      have HL := Lib.hid hl
      by_cases h1 : i < xs.length
      · obtain ⟨g, o, x, rfl, hg, hx, hc⟩ := HA.out.at_ h1
        obtain ⟨g2, o2, y, rfl, hg2, hy, hc2⟩ := HB.out.at_ (show i < ys.length by omega)
        have c1 : wr.cell? ⟨g, o + i, none⟩ = some (.int .i64 x) := by rw [World.cell?_of_block (hK.block g hg)]; exact hc
        have c2 : wr.cell? ⟨g2, o2 + i, none⟩ = some (.int .i64 y) := by rw [World.cell?_of_block (hK.block g2 hg2)]; exact hc2
        have z1 : g < wr.heap.size := Nat.lt_of_lt_of_le hg hK.size
        have z2 : g2 < wr.heap.size := Nat.lt_of_lt_of_le hg2 hK.size
        have i1 : ¬ ((i : Int) < 0) := by omega
        have i2 : (i : Int) < (xs.length : Int) := by omega
        have i3 : (i : Int) < (ys.length : Int) := by omega
        have HX := Lib.hid hx
        have HY := Lib.hid hy
        clear hK he hl hx hy hc hc2 hg hg2 hl2
        by_cases hxy : x = y
        · subst hxy
          have hbb : (x != x) = false := by simp
          have HT := Lib.hid (take_same HE.out HX.out HY.out)
          go_upto_region 6 with fail
          go_quiet (fail)
          go_wp2_with fail
          exact ⟨⟨i + 1, h1, rfl, HT.out, below_drewN K.out _⟩, next_less h1⟩
        · have hbb : (x != y) = true := by simp [hxy]
          have HN := Lib.hid (show decide (xs = ys) = false from decide_eq_false (not_same HX.out HY.out hxy))
          go_upto_region 6 with fail
          go_quiet (fail)
          go_wp2_with fail
          go_ret
          exact ⟨by rw [HN.out]; rfl, below_drewN K.out _⟩
      · have hie : i = xs.length := by omega
        have hxe : xs = ys := by
          rw [hie, List.take_length, hl, List.take_length] at he
          exact he
        have HN := Lib.hid (show decide (xs = ys) = true from decide_eq_true hxe)
        have h1b : ¬ i < ys.length := by omega
        clear hK he hl hxe hl2 hie
        go_wp2_with fail
        go_ret
        exact ⟨by rw [HN.out]; rfl, K.out⟩
  · have hl2 : ((xs.length : Int) != (ys.length : Int)) = true := by simp; omega
    have HN := Lib.hid (show decide (xs = ys) = false from decide_eq_false fun e => hl (by rw [e]))
    clear hl
    go_enter Tryz.func114, Tryz.ntmps114
    go_wp2_with fail
    go_ret
    exact ⟨by rw [HN.out]; rfl, Below.refl _ _⟩
end Go.Proofs.YtibogpidnnodnaaGreatDoor

/- The walk of check's sameIns. -/
namespace Go.Proofs.YtibogpidnnodnaaGreatDoor
open Go.RowKit

theorem tells_no {p : Prop} (h : ¬ p) : TellsB p (.returned (.bool false)) := ⟨false, rfl, fun e => (by cases e), fun e => absurd e h⟩
theorem tells_yes {p : Prop} (h : p) : TellsB p (.returned (.bool true)) := ⟨true, rfl, fun _ => h, fun _ => rfl⟩
set_option maxHeartbeats 8000000 in
set_option maxRecDepth 100000 in
theorem sameIns_any (w : World) (a b : Cins) (ca cb : List Value) (ha : Cins.rd w ca a) (hb : Cins.rd w cb b) (hga : a.good) (hgb : b.good) :
    Calls Tryz.prog 84 #[.agg ca.toArray, .agg cb.toArray] w fun e w' => TellsB (a = b) e ∧ Below w.heap.size w w' := by
  obtain ⟨A5, c5, A6, c6, rfl, ⟨sK, _⟩, ⟨sT, _⟩⟩ := Cins.leafs ha
  obtain ⟨B5, d5, B6, d6, rfl, ⟨tK, _⟩, ⟨tT, _⟩⟩ := Cins.leafs hb
  have SK := Lib.hid sK
  have ST := Lib.hid sT
  have TK := Lib.hid tK
  have TT := Lib.hid tT
  have heq := fun q => eq_val a.const b.const q
  unfold vv at heq
  have hn1 := hga.2.2.2.2.2.1.1
  have hn2 := hgb.2.2.2.2.2.1.1
  have hn3 := hga.2.2.2.2.2.2.1
  have hn4 := hgb.2.2.2.2.2.2.1
  clear ha hb sK sT tK tT hga hgb
  have k1 := (Below.refl w.heap.size w).alloc (Nat.le_refl _) (.cells #[.int .i64 a.op, .int .i64 a.var, .int .i64 a.num, .int .i64 a.const.tag, .string (bs a.const.text), .int .u64 a.const.bits, .string (bs a.const.cls), .string (bs a.const.name), .string (bs a.const.desc), .int .i64 a.to, .slice A5 a.keys.length c5, .slice A6 a.targets.length c6] 46)
  have k2 := (Below.refl (w.alloc (.cells #[.int .i64 a.op, .int .i64 a.var, .int .i64 a.num, .int .i64 a.const.tag, .string (bs a.const.text), .int .u64 a.const.bits, .string (bs a.const.cls), .string (bs a.const.name), .string (bs a.const.desc), .int .i64 a.to, .slice A5 a.keys.length c5, .slice A6 a.targets.length c6] 46)).heap.size (w.alloc (.cells #[.int .i64 a.op, .int .i64 a.var, .int .i64 a.num, .int .i64 a.const.tag, .string (bs a.const.text), .int .u64 a.const.bits, .string (bs a.const.cls), .string (bs a.const.name), .string (bs a.const.desc), .int .i64 a.to, .slice A5 a.keys.length c5, .slice A6 a.targets.length c6] 46))).alloc (Nat.le_refl _) (.cells #[.int .i64 b.op, .int .i64 b.var, .int .i64 b.num, .int .i64 b.const.tag, .string (bs b.const.text), .int .u64 b.const.bits, .string (bs b.const.cls), .string (bs b.const.name), .string (bs b.const.desc), .int .i64 b.to, .slice B5 b.keys.length d5, .slice B6 b.targets.length d6] 46)
  have X1 := Lib.hid ((k2.block _ (Array.getElem?_eq_some_iff.1 (heap_alloc_new w (.cells #[.int .i64 a.op, .int .i64 a.var, .int .i64 a.num, .int .i64 a.const.tag, .string (bs a.const.text), .int .u64 a.const.bits, .string (bs a.const.cls), .string (bs a.const.name), .string (bs a.const.desc), .int .i64 a.to, .slice A5 a.keys.length c5, .slice A6 a.targets.length c6] 46))).1).trans (heap_alloc_new w (.cells #[.int .i64 a.op, .int .i64 a.var, .int .i64 a.num, .int .i64 a.const.tag, .string (bs a.const.text), .int .u64 a.const.bits, .string (bs a.const.cls), .string (bs a.const.name), .string (bs a.const.desc), .int .i64 a.to, .slice A5 a.keys.length c5, .slice A6 a.targets.length c6] 46)))
  have X2 := Lib.hid (heap_alloc_new (w.alloc (.cells #[.int .i64 a.op, .int .i64 a.var, .int .i64 a.num, .int .i64 a.const.tag, .string (bs a.const.text), .int .u64 a.const.bits, .string (bs a.const.cls), .string (bs a.const.name), .string (bs a.const.desc), .int .i64 a.to, .slice A5 a.keys.length c5, .slice A6 a.targets.length c6] 46)) (.cells #[.int .i64 b.op, .int .i64 b.var, .int .i64 b.num, .int .i64 b.const.tag, .string (bs b.const.text), .int .u64 b.const.bits, .string (bs b.const.cls), .string (bs b.const.name), .string (bs b.const.desc), .int .i64 b.to, .slice B5 b.keys.length d5, .slice B6 b.targets.length d6] 46))
  have K := Lib.hid (k1.trans (k2.mono k1.size))
  have hs1 : (w.alloc (.cells #[.int .i64 a.op, .int .i64 a.var, .int .i64 a.num, .int .i64 a.const.tag, .string (bs a.const.text), .int .u64 a.const.bits, .string (bs a.const.cls), .string (bs a.const.name), .string (bs a.const.desc), .int .i64 a.to, .slice A5 a.keys.length c5, .slice A6 a.targets.length c6] 46)).heap.size = w.heap.size + 1 := by show (w.heap.push _).size = _; simp
  rw [hs1] at X2
  clear k1 k2 hs1
  go_enter Tryz.func84, Tryz.ntmps84
  go_upto_region 1 with fail
  generalize (w.alloc (.cells #[.int .i64 a.op, .int .i64 a.var, .int .i64 a.num, .int .i64 a.const.tag, .string (bs a.const.text), .int .u64 a.const.bits, .string (bs a.const.cls), .string (bs a.const.name), .string (bs a.const.desc), .int .i64 a.to, .slice A5 a.keys.length c5, .slice A6 a.targets.length c6] 46)).alloc (.cells #[.int .i64 b.op, .int .i64 b.var, .int .i64 b.num, .int .i64 b.const.tag, .string (bs b.const.text), .int .u64 b.const.bits, .string (bs b.const.cls), .string (bs b.const.name), .string (bs b.const.desc), .int .i64 b.to, .slice B5 b.keys.length d5, .slice B6 b.targets.length d6] 46) = W at X1 X2 K ⊢
  have fa0 : W.cell? ⟨w.heap.size, 0, none⟩ = some (.int .i64 a.op) := by rw [Lib.cell_of_heap X1.out]; rfl
  have fb0 : W.cell? ⟨w.heap.size + 1, 0, none⟩ = some (.int .i64 b.op) := by rw [Lib.cell_of_heap X2.out]; rfl
  have fa1 : W.cell? ⟨w.heap.size, 1, none⟩ = some (.int .i64 a.var) := by rw [Lib.cell_of_heap X1.out]; rfl
  have fb1 : W.cell? ⟨w.heap.size + 1, 1, none⟩ = some (.int .i64 b.var) := by rw [Lib.cell_of_heap X2.out]; rfl
  have fa2 : W.cell? ⟨w.heap.size, 2, none⟩ = some (.int .i64 a.num) := by rw [Lib.cell_of_heap X1.out]; rfl
  have fb2 : W.cell? ⟨w.heap.size + 1, 2, none⟩ = some (.int .i64 b.num) := by rw [Lib.cell_of_heap X2.out]; rfl
  have fa3 : W.cell? ⟨w.heap.size, 3, none⟩ = some (.int .i64 a.const.tag) := by rw [Lib.cell_of_heap X1.out]; rfl
  have fb3 : W.cell? ⟨w.heap.size + 1, 3, none⟩ = some (.int .i64 b.const.tag) := by rw [Lib.cell_of_heap X2.out]; rfl
  have fa4 : W.cell? ⟨w.heap.size, 4, none⟩ = some (.string (bs a.const.text)) := by rw [Lib.cell_of_heap X1.out]; rfl
  have fb4 : W.cell? ⟨w.heap.size + 1, 4, none⟩ = some (.string (bs b.const.text)) := by rw [Lib.cell_of_heap X2.out]; rfl
  have fa5 : W.cell? ⟨w.heap.size, 5, none⟩ = some (.int .u64 a.const.bits) := by rw [Lib.cell_of_heap X1.out]; rfl
  have fb5 : W.cell? ⟨w.heap.size + 1, 5, none⟩ = some (.int .u64 b.const.bits) := by rw [Lib.cell_of_heap X2.out]; rfl
  have fa6 : W.cell? ⟨w.heap.size, 6, none⟩ = some (.string (bs a.const.cls)) := by rw [Lib.cell_of_heap X1.out]; rfl
  have fb6 : W.cell? ⟨w.heap.size + 1, 6, none⟩ = some (.string (bs b.const.cls)) := by rw [Lib.cell_of_heap X2.out]; rfl
  have fa7 : W.cell? ⟨w.heap.size, 7, none⟩ = some (.string (bs a.const.name)) := by rw [Lib.cell_of_heap X1.out]; rfl
  have fb7 : W.cell? ⟨w.heap.size + 1, 7, none⟩ = some (.string (bs b.const.name)) := by rw [Lib.cell_of_heap X2.out]; rfl
  have fa8 : W.cell? ⟨w.heap.size, 8, none⟩ = some (.string (bs a.const.desc)) := by rw [Lib.cell_of_heap X1.out]; rfl
  have fb8 : W.cell? ⟨w.heap.size + 1, 8, none⟩ = some (.string (bs b.const.desc)) := by rw [Lib.cell_of_heap X2.out]; rfl
  have fa9 : W.cell? ⟨w.heap.size, 9, none⟩ = some (.int .i64 a.to) := by rw [Lib.cell_of_heap X1.out]; rfl
  have fb9 : W.cell? ⟨w.heap.size + 1, 9, none⟩ = some (.int .i64 b.to) := by rw [Lib.cell_of_heap X2.out]; rfl
  have fa10 : W.cell? ⟨w.heap.size, 10, none⟩ = some (.slice A5 a.keys.length c5) := by rw [Lib.cell_of_heap X1.out]; rfl
  have fb10 : W.cell? ⟨w.heap.size + 1, 10, none⟩ = some (.slice B5 b.keys.length d5) := by rw [Lib.cell_of_heap X2.out]; rfl
  have fa11 : W.cell? ⟨w.heap.size, 11, none⟩ = some (.slice A6 a.targets.length c6) := by rw [Lib.cell_of_heap X1.out]; rfl
  have fb11 : W.cell? ⟨w.heap.size + 1, 11, none⟩ = some (.slice B6 b.targets.length d6) := by rw [Lib.cell_of_heap X2.out]; rfl
  have fz1 := (Array.getElem?_eq_some_iff.1 X1.out).1
  have fz2 := (Array.getElem?_eq_some_iff.1 X2.out).1
  cases q0 : (a.op == b.op) with
  | false =>
    go_wp2_with fail
    go_ret
    exact ⟨tells_no (fun e => by rw [e] at q0; simp at q0), K.out⟩
  | true =>
    cases q1 : (a.var == b.var) with
    | false =>
      go_wp2_with fail
      go_ret
      exact ⟨tells_no (fun e => by rw [e] at q1; simp at q1), K.out⟩
    | true =>
      cases q2 : (a.num == b.num) with
      | false =>
        go_wp2_with fail
        go_ret
        exact ⟨tells_no (fun e => by rw [e] at q2; simp at q2), K.out⟩
      | true =>
        by_cases hc : a.const = b.const
        rotate_left
        · rw [decide_eq_false hc] at heq
          go_wp2_with fail
          go_ret
          exact ⟨tells_no (fun e => hc (by rw [e])), K.out⟩
        rw [decide_eq_true hc] at heq
        cases q3 : (a.to == b.to) with
        | false =>
          go_wp2_with fail
          go_ret
          exact ⟨tells_no (fun e => by rw [e] at q3; simp at q3), K.out⟩
        | true =>
          have C1 := Lib.hid (eqi_any A5 B5 c5 d5 a.keys b.keys W (SK.out.grow K.out) (TK.out.grow K.out) hn1 hn2)
          go_wp2_with fail
          refine C1.out.mono ?_
          rintro e w1 ⟨rfl, hb1⟩
          have K1 := Lib.hid (K.out.trans (hb1.mono K.out.size))
          have Y1 := Lib.hid ((hb1.block _ fz1).trans X1.out)
          have Y2 := Lib.hid ((hb1.block _ fz2).trans X2.out)
          clear hb1 C1 heq fz1 fz2 fa0 fa1 fa2 fa3 fa4 fa5 fa6 fa7 fa8 fa9 fa10 fa11 fb0 fb1 fb2 fb3 fb4 fb5 fb6 fb7 fb8 fb9 fb10 fb11
          by_cases hk : a.keys = b.keys
          rotate_left
          · rw [decide_eq_false hk]
            go_wp2_with fail
            go_ret
            exact ⟨tells_no (fun e => hk (by rw [e])), K1.out⟩
          rw [decide_eq_true hk]
          have HKK := Lib.hid hk
          have HCC := Lib.hid hc
          clear hk hc
          have ga11 : w1.cell? ⟨w.heap.size, 11, none⟩ = some (.slice A6 a.targets.length c6) := by rw [Lib.cell_of_heap Y1.out]; rfl
          have gb11 : w1.cell? ⟨w.heap.size + 1, 11, none⟩ = some (.slice B6 b.targets.length d6) := by rw [Lib.cell_of_heap Y2.out]; rfl
          have gz1 := (Array.getElem?_eq_some_iff.1 Y1.out).1
          have gz2 := (Array.getElem?_eq_some_iff.1 Y2.out).1
          have C2 := Lib.hid (eqi_any A6 B6 c6 d6 a.targets b.targets w1 (ST.out.grow K1.out) (TT.out.grow K1.out) hn3 hn4)
          go_wp2_with fail
          refine C2.out.mono ?_
          rintro e w2 ⟨rfl, hb2⟩
          have K2 := Lib.hid (K1.out.trans (hb2.mono K1.out.size))
          clear hb2 C2 ga11 gb11
          by_cases ht : a.targets = b.targets
          rotate_left
          · rw [decide_eq_false ht]
            go_wp2_with fail
            go_ret
            exact ⟨tells_no (fun e => ht (by rw [e])), K2.out⟩
          have HE := Lib.hid (show a = b by have h1 := HKK.out; have h2 := HCC.out; cases a; cases b; simp_all)
          rw [decide_eq_true ht]
          clear ht
          go_wp2_with fail
          go_ret
          exact ⟨tells_yes HE.out, K2.out⟩
end Go.Proofs.YtibogpidnnodnaaGreatDoor

/- The walks of layer 20's list: a value, a code, attributes, a member. -/
namespace Go.Proofs.YtibogpidnnodnaaGreatDoor
open Go.RowKit Go.Deep

theorem VBox.still {w w' : World} {q : Nat} {v : Pv} (h : VBox w q v) (k : Still w w') : VBox w' q v := k q _ _ _ h (by decide) (by decide) (by decide)
/-- A list of texts in a new block. -/
theorem txtAt_new {w : World} {base g : Nat} {C : Array Value} {fr : Nat × Nat} (hg : w.heap[g]? = some (.cells C 9 fr)) : TxtAt w base (some ⟨g, 0, none⟩) := fun g' o e => by
  cases e
  exact .inr ⟨C, fr, hg⟩
set_option maxRecDepth 100000 in
set_option maxHeartbeats 1000000 in
theorem value_tell (base b : Nat) (t : Tl) (v : Pv) (w : World) (h : TBox w base b t) (_hv : v.fits) (hN : t.1.length + 100 ≤ 1000000000) (hS : t.2.length + 100 ≤ 1000000000) (hbs : base ≤ w.heap.size) :
    Calls Tryz.prog 82 #[.pointer (some ⟨b, 0, none⟩), vv v] w fun e w' => e = .returned (.tuple #[]) ∧ TBox w' base b (t.add (tlVal v)) ∧ Below base w w' ∧ Still w w' := by
  have k1 := (Below.refl w.heap.size w).alloc (Nat.le_refl _) (.cells #[.int .i64 v.tag, .string (bs v.text), .int .u64 v.bits, .string (bs v.cls), .string (bs v.name), .string (bs v.desc)] 32)
  have HB := Lib.hid (vbox_new w v)
  have HT := Lib.hid (h.grow k1)
  have K1 := Lib.hid (k1.mono hbs)
  have S1 := Lib.hid (still_below k1)
  have hz1 : base ≤ (w.alloc (.cells #[.int .i64 v.tag, .string (bs v.text), .int .u64 v.bits, .string (bs v.cls), .string (bs v.name), .string (bs v.desc)] 32)).heap.size := Nat.le_trans hbs k1.size
  clear k1
  unfold vv
  go_enter Tryz.func82, Tryz.ntmps82
  go_upto_region 1 with fail
  generalize w.alloc (.cells #[.int .i64 v.tag, .string (bs v.text), .int .u64 v.bits, .string (bs v.cls), .string (bs v.name), .string (bs v.desc)] 32) = W at HB HT K1 S1 hz1 ⊢
  obtain ⟨d0, d1, d2, d3, d4, d5⟩ := HB.out.at_
  have hq := HB.out.lt
  have k2 := (Below.refl W.heap.size W).alloc (Nat.le_refl _) (.cells #[.int .i64 v.tag, .int .i64 (wrap64 (v.bits : Int))] 3)
  have C1 := Lib.hid (ints_tell base b 2 (some ⟨W.heap.size, 0, none⟩) t [v.tag, wrap64 (v.bits : Int)] _ (HT.out.grow k2) (ints_new (heap_alloc_new W (.cells #[.int .i64 v.tag, .int .i64 (wrap64 (v.bits : Int))] 3)) [v.tag, wrap64 (v.bits : Int)] rfl) (by simp; omega) (Nat.le_trans hz1 k2.size))
  have K2 := Lib.hid (k2.mono hz1)
  have S2 := Lib.hid (still_below k2)
  clear k2
  go_upto_region 2 with fail
  refine C1.out.mono ?_
  rintro e x1 ⟨rfl, t1, b1, s1⟩
  have HT1 := Lib.hid t1
  have K3 := Lib.hid b1
  have hz3 : base ≤ x1.heap.size := Nat.le_trans (Nat.le_trans hz1 K2.out.size) b1.size
  have S3 := Lib.hid (S2.out.trans s1)
  have HB3 := Lib.hid (HB.out.still (S2.out.trans s1))
  obtain ⟨g0, g1, g2, g3, g4, g5⟩ := HB3.out.at_
  have hq3 := HB3.out.lt
  have k4 := (Below.refl x1.heap.size x1).alloc (Nat.le_refl _) (.cells #[.string (bs v.text), .string (bs v.cls), .string (bs v.name), .string (bs v.desc)] 9)
  have C2 := Lib.hid (texts_tell base b 4 (some ⟨x1.heap.size, 0, none⟩) _ [v.text, v.cls, v.name, v.desc] _ (HT1.out.grow k4) (txt_new (heap_alloc_new x1 (.cells #[.string (bs v.text), .string (bs v.cls), .string (bs v.name), .string (bs v.desc)] 9)) [v.text, v.cls, v.name, v.desc] rfl)
    (fun _ => txtAt_new (heap_alloc_new x1 (.cells #[.string (bs v.text), .string (bs v.cls), .string (bs v.name), .string (bs v.desc)] 9))) (by simp [Tl.add, tlInts]; omega) (by simp [Tl.add, tlInts]; omega) (Nat.le_trans hz3 k4.size))
  have K4 := Lib.hid (k4.mono hz3)
  have S4 := Lib.hid (still_below k4)
  clear k4 t1 b1 s1 d0 d1 d2 d3 d4 d5 hq C1
  go_wp2_with fail
  refine C2.out.mono ?_
  rintro e x2 ⟨rfl, t2, b2, s2⟩
  have HT2 := Lib.hid t2
  have K5 := Lib.hid b2
  have S5 := Lib.hid s2
  clear t2 b2 s2 C2
  go_wp2_with fail
  go_end0
  exact ⟨rfl, (by have := HT2.out; rw [Tl.add_assoc] at this; exact this), K1.out.trans (K2.out.trans (K3.out.trans (K4.out.trans K5.out))), S1.out.trans (S3.out.trans (S4.out.trans S5.out))⟩
end Go.Proofs.YtibogpidnnodnaaGreatDoor

/- How much a code tells in part: no more than in whole. Plain. -/
namespace Go.Proofs.YtibogpidnnodnaaGreatDoor

theorem len_size (t : Tl) : t.1.length + t.2.length ≤ t.size := by
  have h : ∀ l : List (List UInt8), l.length ≤ (l.map fun s => s.length + 1).sum := fun l => by
    induction l with
    | nil => exact Nat.le_refl _
    | cons a l ih => simp only [List.map_cons, List.sum_cons, List.length_cons]; omega
  have := h t.2
  unfold Tl.size
  omega
theorem len_add (a b : Tl) : (a.add b).1.length + (a.add b).2.length = (a.1.length + a.2.length) + (b.1.length + b.2.length) := by
  simp only [Tl.add, List.length_append]
  omega
theorem size_mem {α : Type} (f : α → Tl) : ∀ (xs : List α) (x : α), x ∈ xs → (f x).size ≤ (tlAll f xs).size
  | y :: ys, x, h => by
    simp only [tlAll, Tl.size_add]
    rcases List.mem_cons.1 h with rfl | h
    · omega
    · have := size_mem f ys x h
      omega
theorem size_take {α : Type} (f : α → Tl) (xs : List α) (i : Nat) : (tlAll f (xs.take i)).size ≤ (tlAll f xs).size := by
  conv => rhs; rw [← List.take_append_drop i xs]
  rw [tlAll_app, Tl.size_add]
  omega
theorem code_sizes (y : Cde) : (tlCode y).size = 7 + (tlAll tlIns y.ops).size + (tlAll tlHnd y.handlers).size + (tlAll tlLno y.lines).size + (tlAll tlSlt y.slots).size := by
  simp only [tlCode, Tl.size_add, size_ints, List.length_cons, List.length_nil]
/-- Ahead of an instruction there is room. -/
theorem code_room (t u : Tl) (y : Cde) (hu : u.1.length + u.2.length = 7) (h : t.1.length + t.2.length + (tlCode y).size ≤ 100000000) (i : Nat) :
    ((t.add u).add (tlAll tlIns (y.ops.take i))).1.length + ((t.add u).add (tlAll tlIns (y.ops.take i))).2.length ≤ 200000000 := by
  have h1 := size_take tlIns y.ops i
  have h2 := len_size (tlAll tlIns (y.ops.take i))
  rw [code_sizes] at h
  rw [len_add, len_add]
  omega
theorem hnd_room (t u : Tl) (y : Cde) (hu : u.1.length + u.2.length = 7) (h : t.1.length + t.2.length + (tlCode y).size ≤ 100000000) (i : Nat) :
    (((t.add u).add (tlAll tlIns y.ops)).add (tlAll tlHnd (y.handlers.take i))).1.length + (((t.add u).add (tlAll tlIns y.ops)).add (tlAll tlHnd (y.handlers.take i))).2.length ≤ 200000000 := by
  have h1 := size_take tlHnd y.handlers i
  have h2 := len_size (tlAll tlHnd (y.handlers.take i))
  have h3 := len_size (tlAll tlIns y.ops)
  rw [code_sizes] at h
  rw [len_add, len_add, len_add]
  omega
theorem lno_room (t u u2 u3 : Tl) (y : Cde) (e2 : u2 = (t.add u).add (tlAll tlIns y.ops)) (e3 : u3 = u2.add (tlAll tlHnd y.handlers)) (hu : u.1.length + u.2.length = 7) (h : t.1.length + t.2.length + (tlCode y).size ≤ 100000000) (i : Nat) :
    (u3.add (tlAll tlLno (y.lines.take i))).1.length + (u3.add (tlAll tlLno (y.lines.take i))).2.length ≤ 200000000 := by
  have h1 := size_take tlLno y.lines i
  have h2 := len_size (tlAll tlLno (y.lines.take i))
  have h3 := len_size (tlAll tlIns y.ops)
  have h4 := len_size (tlAll tlHnd y.handlers)
  rw [code_sizes] at h
  rw [len_add, e3, len_add, e2, len_add, len_add]
  omega
theorem slt_room (t u u2 u3 u4 : Tl) (y : Cde) (e2 : u2 = (t.add u).add (tlAll tlIns y.ops)) (e3 : u3 = u2.add (tlAll tlHnd y.handlers)) (e4 : u4 = u3.add (tlAll tlLno y.lines)) (hu : u.1.length + u.2.length = 7) (h : t.1.length + t.2.length + (tlCode y).size ≤ 100000000) (i : Nat) :
    (u4.add (tlAll tlSlt (y.slots.take i))).1.length + (u4.add (tlAll tlSlt (y.slots.take i))).2.length ≤ 200000000 := by
  have h1 := size_take tlSlt y.slots i
  have h2 := len_size (tlAll tlSlt (y.slots.take i))
  have h3 := len_size (tlAll tlIns y.ops)
  have h4 := len_size (tlAll tlHnd y.handlers)
  have h5 := len_size (tlAll tlLno y.lines)
  rw [code_sizes] at h
  rw [len_add, e4, len_add, e3, len_add, e2, len_add, len_add]
  omega
theorem code_keys (t : Tl) (y : Cde) (h : t.1.length + t.2.length + (tlCode y).size ≤ 100000000) (x : Cins) (hx : x ∈ y.ops) : x.keys.length + x.targets.length ≤ 100000000 := by
  have h1 := size_mem tlIns y.ops x hx
  rw [code_sizes] at h
  have h2 : x.keys.length + x.targets.length ≤ (tlIns x).size := by
    simp only [tlIns, Tl.size_add, size_ints]
    omega
  omega
theorem atr_sizes (y : Atr) : (tlAtr y).size = 2 + (tlCode y.code).size + (tlVal y.value).size + (tlTexts y.throws).size + (tlAll tlInr y.inners).size + (tlTexts [y.signature, y.source]).size := by
  simp only [tlAtr, Tl.size_add, size_ints, List.length_cons, List.length_nil]
/-- Ahead of an inner class there is room. -/
theorem inr_room (t u5 : Tl) (y : Atr) (e5 : u5 = (((t.add (tlInts [y.has, (y.inners.length : Int)])).add (tlCode y.code)).add (tlVal y.value)).add (tlTexts y.throws)) (h : t.1.length + t.2.length + (tlAtr y).size ≤ 100000000) (i : Nat) :
    (u5.add (tlAll tlInr (y.inners.take i))).1.length + (u5.add (tlAll tlInr (y.inners.take i))).2.length ≤ 200000000 := by
  have h1 := size_take tlInr y.inners i
  have h2 := len_size (tlAll tlInr (y.inners.take i))
  have h3 := len_size (tlInts [y.has, (y.inners.length : Int)])
  have h4 := len_size (tlCode y.code)
  have h5 := len_size (tlVal y.value)
  have h6 := len_size (tlTexts y.throws)
  rw [size_ints] at h3
  simp only [List.length_cons, List.length_nil] at h3
  rw [atr_sizes] at h
  rw [len_add, e5, len_add, len_add, len_add, len_add]
  omega
end Go.Proofs.YtibogpidnnodnaaGreatDoor

/- The walk of layer 20's list: a code told. -/
namespace Go.Proofs.YtibogpidnnodnaaGreatDoor
open Go.RowKit Go.Deep

theorem wrap_next {n i : Nat} (h : i < n) (hn : n ≤ 140737488355328) : wrap64 ((i : Int) + 1) = ((i + 1 : Nat) : Int) := by unfold wrap64; omega
theorem less_next {n i : Nat} (h : i < n) : n - ((i + 1 : Nat) : Int).toNat < n - (i : Int).toNat := by omega
set_option maxRecDepth 100000 in
set_option maxHeartbeats 4000000 in
theorem code_tell (w0 w : World) (b : Nat) (t : Tl) (y : Cde) (cs : List Value) (hr : Cde.rd w0 cs y) (hg : y.good) (hB : Below w0.heap.size w0 w) (h : TBox w w0.heap.size b t) (hsz : t.1.length + t.2.length + (tlCode y).size ≤ 100000000) :
    Calls Tryz.prog 81 #[.pointer (some ⟨b, 0, none⟩), .agg cs.toArray] w fun e w' => e = .returned (.tuple #[]) ∧ TBox w' w0.heap.size b (t.add (tlCode y)) ∧ Below w0.heap.size w w' ∧ Still w w' := by
  obtain ⟨A2, c2, A3, c3, A5, c5, A6, c6, rfl, ⟨s2, z2⟩, ⟨s3, z3⟩, ⟨s5, z5⟩, ⟨s6, z6⟩⟩ := Cde.leafs hr
  have hbs := hB.size
  have k1 := (Below.refl w.heap.size w).alloc (Nat.le_refl _) (.cells #[.int .i64 y.stack, .int .i64 y.locals, .slice A2 y.ops.length c2, .slice A3 y.handlers.length c3, .int .i64 y.has, .slice A5 y.lines.length c5, .slice A6 y.slots.length c6] 29)
  have HX := Lib.hid (heap_alloc_new w (.cells #[.int .i64 y.stack, .int .i64 y.locals, .slice A2 y.ops.length c2, .slice A3 y.handlers.length c3, .int .i64 y.has, .slice A5 y.lines.length c5, .slice A6 y.slots.length c6] 29))
  have HT := Lib.hid (h.grow k1)
  have K1 := Lib.hid (k1.mono hbs)
  have S1 := Lib.hid (still_below k1)
  have hz1 := Nat.le_trans hbs k1.size
  have HS2 := Lib.hid s2
  have HS3 := Lib.hid s3
  have HS5 := Lib.hid s5
  have HS6 := Lib.hid s6
  have HB := Lib.hid hB
  clear k1 h s2 s3 s5 s6 hB hr
  go_enter Tryz.func81, Tryz.ntmps81
  go_upto_region 1 with fail
  generalize w.alloc (.cells #[.int .i64 y.stack, .int .i64 y.locals, .slice A2 y.ops.length c2, .slice A3 y.handlers.length c3, .int .i64 y.has, .slice A5 y.lines.length c5, .slice A6 y.slots.length c6] 29) = W at HX HT K1 S1 hz1 ⊢
  have hq := (Array.getElem?_eq_some_iff.1 HX.out).1
  have d0 : W.cell? ⟨w.heap.size, 0, none⟩ = some (.int .i64 y.stack) := by rw [Lib.cell_of_heap HX.out]; rfl
  have d1 : W.cell? ⟨w.heap.size, 1, none⟩ = some (.int .i64 y.locals) := by rw [Lib.cell_of_heap HX.out]; rfl
  have d2 : W.cell? ⟨w.heap.size, 2, none⟩ = some (.slice A2 y.ops.length c2) := by rw [Lib.cell_of_heap HX.out]; rfl
  have d3 : W.cell? ⟨w.heap.size, 3, none⟩ = some (.slice A3 y.handlers.length c3) := by rw [Lib.cell_of_heap HX.out]; rfl
  have d4 : W.cell? ⟨w.heap.size, 4, none⟩ = some (.int .i64 y.has) := by rw [Lib.cell_of_heap HX.out]; rfl
  have d5 : W.cell? ⟨w.heap.size, 5, none⟩ = some (.slice A5 y.lines.length c5) := by rw [Lib.cell_of_heap HX.out]; rfl
  have d6 : W.cell? ⟨w.heap.size, 6, none⟩ = some (.slice A6 y.slots.length c6) := by rw [Lib.cell_of_heap HX.out]; rfl
  have k2 := (Below.refl W.heap.size W).alloc (Nat.le_refl _) (.cells #[.int .i64 y.stack, .int .i64 y.locals, .int .i64 y.has, .int .i64 (y.ops.length : Int), .int .i64 (y.handlers.length : Int), .int .i64 (y.lines.length : Int), .int .i64 (y.slots.length : Int)] 3)
  have C1 := Lib.hid (ints_tell w0.heap.size b 7 (some ⟨W.heap.size, 0, none⟩) t [y.stack, y.locals, y.has, y.ops.length, y.handlers.length, y.lines.length, y.slots.length] _ (HT.out.grow k2) (ints_new (heap_alloc_new W (.cells #[.int .i64 y.stack, .int .i64 y.locals, .int .i64 y.has, .int .i64 (y.ops.length : Int), .int .i64 (y.handlers.length : Int), .int .i64 (y.lines.length : Int), .int .i64 (y.slots.length : Int)] 3)) [y.stack, y.locals, y.has, y.ops.length, y.handlers.length, y.lines.length, y.slots.length] rfl) (by simp; omega) (Nat.le_trans hz1 k2.size))
  have K2 := Lib.hid (k2.mono hz1)
  have S2 := Lib.hid (still_below k2)
  clear k2
  go_upto_region 2 with fail
  refine C1.out.mono ?_
  rintro e x1 ⟨rfl, t1, b1, s1⟩
  have HT1 := Lib.hid t1
  have K3 := Lib.hid (K1.out.trans (K2.out.trans b1))
  have S3 := Lib.hid (S1.out.trans (S2.out.trans s1))
  have HX3 := Lib.hid ((S2.out.trans s1) _ _ _ _ HX.out (by decide) (by decide) (by decide))
  clear t1 b1 s1 C1 K1 K2 S1 S2 HX HT d0 d1 d2 d3 d4 d5 d6 hq hz1
  have e2 : x1.cell? ⟨w.heap.size, 2, none⟩ = some (.slice A2 y.ops.length c2) := by rw [Lib.cell_of_heap HX3.out]; rfl
  go_upto_region 2 with fail
  generalize he1 : tlInts [y.stack, y.locals, y.has, (y.ops.length : Int), (y.handlers.length : Int), (y.lines.length : Int), (y.slots.length : Int)] = u1 at HT1
  have HU1 := Lib.hid he1
  clear he1
  have HIN := fun (i : Nat) (_ : i ≤ y.ops.length) => code_room t u1 y (by rw [← HU1.out]; simp [tlInts]) hsz i
  have HIX := Lib.hid HIN
  have HKX := fun (x : Cins) (hx : x ∈ y.ops) => code_keys t y hsz x hx
  have HKS := Lib.hid HKX
  have HGO := fun (x : Cins) (hx : x ∈ y.ops) => hg.2.2.1.2 x hx
  have HGS := Lib.hid HGO
  clear HIN HKX HGO
  go_upto_region 3 with fail
  go_loopw [36] (fun u wr => ∃ i : Nat, i ≤ y.ops.length ∧ u = .int .i64 i ∧ TBox wr w0.heap.size b ((t.add u1).add (tlAll tlIns (y.ops.take i))) ∧ Below w0.heap.size w wr ∧ Still w wr ∧ wr.heap[w.heap.size]? = x1.heap[w.heap.size]?) (fun u _ => y.ops.length - (intOf u).toNat)
  case atStart => exact ⟨0, Nat.zero_le _, rfl, by simpa [tlAll, Tl.add_nil] using HT1.out, K3.out, S3.out, rfl⟩
  case round =>
    obtain ⟨i, hil, rfl, hT, hK, hS, hH⟩ := hrel
    have HKi := Lib.hid hK
    have HSi := Lib.hid hS
    have HHi := Lib.hid hH
    by_cases h1 : i < y.ops.length
    · obtain ⟨g, o, x, cx, rfl, hgw, hx, hrx, hcl, hcx⟩ := HS2.out.at_ h1
      have hsi := HIX.out i hil
      have hkx := HKS.out x (List.mem_of_getElem? hx)
      have hgx := Lib.hid (HGS.out x (List.mem_of_getElem? hx))
      have HSN := Lib.hid (tlAll_snoc tlIns hx)
      obtain ⟨TA, hTA⟩ : ∃ TA, TA = (t.add u1).add (tlAll tlIns (y.ops.take i)) := ⟨_, rfl⟩
      rw [← hTA] at hT hsi
      have HTi := Lib.hid hT
      have HTA := Lib.hid hTA
      clear hTA
      have hcw := hcx.grow (HB.out.trans HKi.out) hgw
      obtain ⟨A10, c10, A11, c11, rfl, ⟨i10, z10⟩, ⟨i11, z11⟩⟩ := Cins.leafs hrx
      have hgr : g < wr.heap.size := Nat.lt_of_lt_of_le hgw (HB.out.trans HKi.out).size
      have f0 := hcw 0 _ rfl
      have f1 := hcw 1 _ rfl
      have f2 := hcw 2 _ rfl
      have f3 := hcw 3 _ rfl
      have f4 := hcw 4 _ rfl
      have f5 := hcw 5 _ rfl
      have f6 := hcw 6 _ rfl
      have f7 := hcw 7 _ rfl
      have f8 := hcw 8 _ rfl
      have f9 := hcw 9 _ rfl
      have f10 := hcw 10 _ rfl
      have f11 := hcw 11 _ rfl
      rw [Nat.add_zero] at f0
      have HI10 := Lib.hid i10
      have HI11 := Lib.hid i11
      clear hT hK hS hH hcw hcx hrx i10 i11
      go_upto_region 5 with fail
      have k4 := (Below.refl wr.heap.size wr).alloc (Nat.le_refl _) (.cells #[.int .i64 x.op, .int .i64 x.var, .int .i64 x.num, .int .i64 x.const.tag, .string (bs x.const.text), .int .u64 x.const.bits, .string (bs x.const.cls), .string (bs x.const.name), .string (bs x.const.desc), .int .i64 x.to, .slice A10 x.keys.length c10, .slice A11 x.targets.length c11] 46)
      have HX4 := Lib.hid (heap_alloc_new wr (.cells #[.int .i64 x.op, .int .i64 x.var, .int .i64 x.num, .int .i64 x.const.tag, .string (bs x.const.text), .int .u64 x.const.bits, .string (bs x.const.cls), .string (bs x.const.name), .string (bs x.const.desc), .int .i64 x.to, .slice A10 x.keys.length c10, .slice A11 x.targets.length c11] 46))
      have hzr := Nat.le_trans hbs HKi.out.size
      have HT4 := Lib.hid (HTi.out.grow k4)
      have K4 := Lib.hid (HKi.out.trans (k4.mono hzr))
      have S4 := Lib.hid (HSi.out.trans (still_below k4))
      have HH4 := Lib.hid ((k4.block w.heap.size (Nat.lt_of_lt_of_le (Array.getElem?_eq_some_iff.1 (HHi.out.trans HX3.out)).1 (Nat.le_refl _))).trans HHi.out)
      have hz4 := Nat.le_trans hzr k4.size
      clear k4 f0 f1 f2 f3 f4 f5 f6 f7 f8 f9 f10 f11 HTi HKi HSi HHi
      generalize hW4 : wr.alloc (.cells #[.int .i64 x.op, .int .i64 x.var, .int .i64 x.num, .int .i64 x.const.tag, .string (bs x.const.text), .int .u64 x.const.bits, .string (bs x.const.cls), .string (bs x.const.name), .string (bs x.const.desc), .int .i64 x.to, .slice A10 x.keys.length c10, .slice A11 x.targets.length c11] 46) = W4 at HX4 HT4 K4 S4 HH4 hz4 ⊢
      clear hW4
      have l0 : W4.cell? ⟨wr.heap.size, 0, none⟩ = some (.int .i64 x.op) := by rw [Lib.cell_of_heap HX4.out]; rfl
      have l1 : W4.cell? ⟨wr.heap.size, 1, none⟩ = some (.int .i64 x.var) := by rw [Lib.cell_of_heap HX4.out]; rfl
      have l2 : W4.cell? ⟨wr.heap.size, 2, none⟩ = some (.int .i64 x.num) := by rw [Lib.cell_of_heap HX4.out]; rfl
      have l9 : W4.cell? ⟨wr.heap.size, 9, none⟩ = some (.int .i64 x.to) := by rw [Lib.cell_of_heap HX4.out]; rfl
      have l10 : W4.cell? ⟨wr.heap.size, 10, none⟩ = some (.slice A10 x.keys.length c10) := by rw [Lib.cell_of_heap HX4.out]; rfl
      have l11 : W4.cell? ⟨wr.heap.size, 11, none⟩ = some (.slice A11 x.targets.length c11) := by rw [Lib.cell_of_heap HX4.out]; rfl
      have hl4 := (Array.getElem?_eq_some_iff.1 HX4.out).1
      have k5 := (Below.refl W4.heap.size W4).alloc (Nat.le_refl _) (.cells #[.int .i64 x.op, .int .i64 x.var, .int .i64 x.num, .int .i64 x.to, .int .i64 (x.keys.length : Int), .int .i64 (x.targets.length : Int)] 3)
      have C5 := Lib.hid (ints_tell w0.heap.size b 6 (some ⟨W4.heap.size, 0, none⟩) _ [x.op, x.var, x.num, x.to, (x.keys.length : Int), (x.targets.length : Int)] _ (HT4.out.grow k5) (ints_new (heap_alloc_new W4 (.cells #[.int .i64 x.op, .int .i64 x.var, .int .i64 x.num, .int .i64 x.to, .int .i64 (x.keys.length : Int), .int .i64 (x.targets.length : Int)] 3)) [x.op, x.var, x.num, x.to, (x.keys.length : Int), (x.targets.length : Int)] rfl) (by simp only [List.length_cons, List.length_nil]; omega) (Nat.le_trans hz4 k5.size))
      have K5 := Lib.hid (k5.mono hz4)
      have S5 := Lib.hid (still_below k5)
      clear k5
      go_upto_region 6 with fail
      refine C5.out.mono ?_
      rintro e x2 ⟨rfl, t2, b2, s2⟩
      have HT5 := Lib.hid t2
      have K6 := Lib.hid (K4.out.trans (K5.out.trans b2))
      have S6 := Lib.hid (S4.out.trans (S5.out.trans s2))
      have HX6 := Lib.hid ((S5.out.trans s2) _ _ _ _ HX4.out (by decide) (by decide) (by decide))
      have HH6 := Lib.hid (((S5.out.trans s2) _ _ _ _ (HH4.out.trans HX3.out) (by decide) (by decide) (by decide)).trans HX3.out.symm)
      have hz6 := Nat.le_trans hz4 (Nat.le_trans K5.out.size b2.size)
      clear t2 b2 s2 C5 K4 S4 K5 S5 HX4 HH4 HT4 l0 l1 l2 l9 l10 l11 hl4
      have m3 : x2.cell? ⟨wr.heap.size, 3, none⟩ = some (.int .i64 x.const.tag) := by rw [Lib.cell_of_heap HX6.out]; rfl
      have m4 : x2.cell? ⟨wr.heap.size, 4, none⟩ = some (.string (bs x.const.text)) := by rw [Lib.cell_of_heap HX6.out]; rfl
      have m5 : x2.cell? ⟨wr.heap.size, 5, none⟩ = some (.int .u64 x.const.bits) := by rw [Lib.cell_of_heap HX6.out]; rfl
      have m6 : x2.cell? ⟨wr.heap.size, 6, none⟩ = some (.string (bs x.const.cls)) := by rw [Lib.cell_of_heap HX6.out]; rfl
      have m7 : x2.cell? ⟨wr.heap.size, 7, none⟩ = some (.string (bs x.const.name)) := by rw [Lib.cell_of_heap HX6.out]; rfl
      have m8 : x2.cell? ⟨wr.heap.size, 8, none⟩ = some (.string (bs x.const.desc)) := by rw [Lib.cell_of_heap HX6.out]; rfl
      have n5 : (TA.add (tlInts [x.op, x.var, x.num, x.to, (x.keys.length : Int), (x.targets.length : Int)])).1.length = TA.1.length + 6 ∧ (TA.add (tlInts [x.op, x.var, x.num, x.to, (x.keys.length : Int), (x.targets.length : Int)])).2.length = TA.2.length := by simp [Tl.add, tlInts]
      have C6 := Lib.hid (value_tell w0.heap.size b _ x.const x2 HT5.out hgx.out.2.2.2.1 (by rw [n5.1]; omega) (by rw [n5.2]; omega) hz6)
      go_upto_region 6 with fail
      go_upto_region 7 with fail
      refine C6.out.mono ?_
      rintro e x3 ⟨rfl, t3, b3, s3⟩
      have HT7 := Lib.hid t3
      have K7 := Lib.hid (K6.out.trans b3)
      have S7 := Lib.hid (S6.out.trans s3)
      have HX7 := Lib.hid (s3 _ _ _ _ HX6.out (by decide) (by decide) (by decide))
      have HH7 := Lib.hid ((s3 _ _ _ _ (HH6.out.trans HX3.out) (by decide) (by decide) (by decide)).trans HX3.out.symm)
      have hz7 := Nat.le_trans hz6 b3.size
      clear t3 b3 s3 C6 S6 HX6 HH6 HT5 m3 m4 m5 m6 m7 m8
      have p10 : x3.cell? ⟨wr.heap.size, 10, none⟩ = some (.slice A10 x.keys.length c10) := by rw [Lib.cell_of_heap HX7.out]; rfl
      have n7 : ((TA.add (tlInts [x.op, x.var, x.num, x.to, (x.keys.length : Int), (x.targets.length : Int)])).add (tlVal x.const)).1.length = TA.1.length + 9 := by simp [Tl.add, tlInts, tlVal, tlTexts]
      have C7 := Lib.hid (ints_tell w0.heap.size b c10 A10 _ x.keys x3 HT7.out (HI10.out.grow (HB.out.trans K7.out)) (by rw [n7]; omega) hz7)
      go_upto_region 7 with fail
      go_upto_region 8 with fail
      refine C7.out.mono ?_
      rintro e x4 ⟨rfl, t4, b4, s4⟩
      have HT8 := Lib.hid t4
      have K8 := Lib.hid (K7.out.trans b4)
      have S8 := Lib.hid (S7.out.trans s4)
      have HX8 := Lib.hid (s4 _ _ _ _ HX7.out (by decide) (by decide) (by decide))
      have HH8 := Lib.hid ((s4 _ _ _ _ (HH7.out.trans HX3.out) (by decide) (by decide) (by decide)).trans HX3.out.symm)
      have hz8 := Nat.le_trans hz7 b4.size
      clear t4 b4 s4 C7 S7 HX7 HH7 HT7 p10
      have p11 : x4.cell? ⟨wr.heap.size, 11, none⟩ = some (.slice A11 x.targets.length c11) := by rw [Lib.cell_of_heap HX8.out]; rfl
      have n8 : (((TA.add (tlInts [x.op, x.var, x.num, x.to, (x.keys.length : Int), (x.targets.length : Int)])).add (tlVal x.const)).add (tlInts x.keys)).1.length = TA.1.length + 9 + x.keys.length := by simp [Tl.add, tlInts, tlVal, tlTexts]; omega
      have C8 := Lib.hid (ints_tell w0.heap.size b c11 A11 _ x.targets x4 HT8.out (HI11.out.grow (HB.out.trans K8.out)) (by rw [n8]; omega) hz8)
      go_upto_region 8 with fail
      go_upto_region 9 with fail
      refine C8.out.mono ?_
      rintro e x5 ⟨rfl, t5, b5, s5⟩
      have HT9 := Lib.hid t5
      have K9 := Lib.hid (K8.out.trans b5)
      have S9 := Lib.hid (S8.out.trans s5)
      have HH9 := Lib.hid ((s5 _ _ _ _ (HH8.out.trans HX3.out) (by decide) (by decide) (by decide)).trans HX3.out.symm)
      have hfin : (((TA.add (tlInts [x.op, x.var, x.num, x.to, (x.keys.length : Int), (x.targets.length : Int)])).add (tlVal x.const)).add (tlInts x.keys)).add (tlInts x.targets) = (t.add u1).add (tlAll tlIns (y.ops.take (i + 1))) := by
        rw [HSN.out, HTA.out]
        simp only [tlIns, Tl.add_assoc]
      have HF := Lib.hid hfin
      clear t5 b5 s5 C8 S8 HX8 HH8 HT8 p11 hfin
      go_wp2_with fail
      have hol := hg.2.2.1.1
      have hwr := wrap_next h1 hol
      refine ⟨⟨i + 1, h1, by rw [hwr], by rw [← HF.out]; exact HT9.out, K9.out, S9.out, HH9.out⟩, ?_⟩
      rw [hwr]
      exact less_next h1
    · have hie : i = y.ops.length := by omega
      subst hie
      rw [List.take_length] at hT
      have HT21 := Lib.hid hT
      have KK22 := Lib.hid hK
      have SS22 := Lib.hid hS
      have HX22 := Lib.hid (hH.trans HX3.out)
      clear hT hK hS hH HX3 HT1 e2
      have e3 : wr.cell? ⟨w.heap.size, 3, none⟩ = some (.slice A3 y.handlers.length c3) := by rw [Lib.cell_of_heap HX22.out]; rfl
      have hq4 := (Array.getElem?_eq_some_iff.1 HX22.out).1
      obtain ⟨u2, hu2⟩ : ∃ u2, u2 = (t.add u1).add (tlAll tlIns y.ops) := ⟨_, rfl⟩
      have HT22 := Lib.hid (show TBox wr w0.heap.size b u2 by rw [hu2]; exact HT21.out)
      have HU2 := Lib.hid hu2
      have HR2 := Lib.hid (fun (i : Nat) => show (u2.add (tlAll tlHnd (y.handlers.take i))).1.length + (u2.add (tlAll tlHnd (y.handlers.take i))).2.length ≤ 200000000 by rw [hu2]; exact hnd_room t u1 y (by rw [← HU1.out]; simp [tlInts]) hsz i)
      clear hu2 HT21
      go_upto_region 11 with fail
      clear e3 hq4
      go_loopw [73] (fun u wr => ∃ i : Nat, i ≤ y.handlers.length ∧ u = .int .i64 i ∧ TBox wr w0.heap.size b (u2.add (tlAll tlHnd (y.handlers.take i))) ∧ Below w0.heap.size w wr ∧ Still w wr ∧ wr.heap[w.heap.size]? = some (.cells #[.int .i64 y.stack, .int .i64 y.locals, .slice A2 y.ops.length c2, .slice A3 y.handlers.length c3, .int .i64 y.has, .slice A5 y.lines.length c5, .slice A6 y.slots.length c6] 29)) (fun u _ => y.handlers.length - (intOf u).toNat)
      case atStart => exact ⟨0, Nat.zero_le _, rfl, by simpa [tlAll, Tl.add_nil] using HT22.out, KK22.out, SS22.out, HX22.out⟩
      case round =>
        obtain ⟨i, hil, rfl, hT, hK, hS, hH⟩ := hrel
        have HKi := Lib.hid hK
        have HSi := Lib.hid hS
        have HHi := Lib.hid hH
        by_cases h1 : i < y.handlers.length
        · obtain ⟨g, o, x, cx, rfl, hgw, hx, hrx, hcl, hcx⟩ := HS3.out.at_ h1
          have hsi := HR2.out i
          have HSN := Lib.hid (tlAll_snoc tlHnd hx)
          obtain ⟨TA, hTA⟩ : ∃ TA, TA = u2.add (tlAll tlHnd (y.handlers.take i)) := ⟨_, rfl⟩
          rw [← hTA] at hT hsi
          have HTi := Lib.hid hT
          have HTA := Lib.hid hTA
          clear hTA
          have hcw := hcx.grow (HB.out.trans HKi.out) hgw
          obtain rfl := Hnd.leafs hrx
          have hgr : g < wr.heap.size := Nat.lt_of_lt_of_le hgw (HB.out.trans HKi.out).size
          have f0 := hcw 0 _ rfl
          have f1 := hcw 1 _ rfl
          have f2 := hcw 2 _ rfl
          have f3 := hcw 3 _ rfl
          rw [Nat.add_zero] at f0
          clear hT hK hS hH hcw hcx hrx
          go_upto_region 13 with fail
          have k4 := (Below.refl wr.heap.size wr).alloc (Nat.le_refl _) (.cells #[.int .i64 x.from_, .int .i64 x.till, .int .i64 x.to, .string (bs x.kind)] 116)
          have HX4 := Lib.hid (heap_alloc_new wr (.cells #[.int .i64 x.from_, .int .i64 x.till, .int .i64 x.to, .string (bs x.kind)] 116))
          have hzr := Nat.le_trans hbs HKi.out.size
          have HT4 := Lib.hid (HTi.out.grow k4)
          have K4 := Lib.hid (HKi.out.trans (k4.mono hzr))
          have S4 := Lib.hid (HSi.out.trans (still_below k4))
          have HH4 := Lib.hid ((k4.block w.heap.size (Array.getElem?_eq_some_iff.1 HHi.out).1).trans HHi.out)
          have hz4 := Nat.le_trans hzr k4.size
          clear k4 f0 f1 f2 f3 HTi HKi HSi HHi
          generalize hW4 : wr.alloc (.cells #[.int .i64 x.from_, .int .i64 x.till, .int .i64 x.to, .string (bs x.kind)] 116) = W4 at HX4 HT4 K4 S4 HH4 hz4 ⊢
          clear hW4
          have l0 : W4.cell? ⟨wr.heap.size, 0, none⟩ = some (.int .i64 x.from_) := by rw [Lib.cell_of_heap HX4.out]; rfl
          have l1 : W4.cell? ⟨wr.heap.size, 1, none⟩ = some (.int .i64 x.till) := by rw [Lib.cell_of_heap HX4.out]; rfl
          have l2 : W4.cell? ⟨wr.heap.size, 2, none⟩ = some (.int .i64 x.to) := by rw [Lib.cell_of_heap HX4.out]; rfl
          have hl4 := (Array.getElem?_eq_some_iff.1 HX4.out).1
          have k5 := (Below.refl W4.heap.size W4).alloc (Nat.le_refl _) (.cells #[.int .i64 x.from_, .int .i64 x.till, .int .i64 x.to] 3)
          have C5 := Lib.hid (ints_tell w0.heap.size b 3 (some ⟨W4.heap.size, 0, none⟩) _ [x.from_, x.till, x.to] _ (HT4.out.grow k5) (ints_new (heap_alloc_new W4 (.cells #[.int .i64 x.from_, .int .i64 x.till, .int .i64 x.to] 3)) [x.from_, x.till, x.to] rfl) (by simp only [List.length_cons, List.length_nil]; omega) (Nat.le_trans hz4 k5.size))
          have K5 := Lib.hid (k5.mono hz4)
          have S5 := Lib.hid (still_below k5)
          clear k5
          go_upto_region 14 with fail
          refine C5.out.mono ?_
          rintro e x2 ⟨rfl, t2, b2, s2⟩
          have HT5 := Lib.hid t2
          have K6 := Lib.hid (K4.out.trans (K5.out.trans b2))
          have S6 := Lib.hid (S4.out.trans (S5.out.trans s2))
          have HX6 := Lib.hid ((S5.out.trans s2) _ _ _ _ HX4.out (by decide) (by decide) (by decide))
          have HH6 := Lib.hid ((S5.out.trans s2) _ _ _ _ HH4.out (by decide) (by decide) (by decide))
          have hz6 := Nat.le_trans hz4 (Nat.le_trans K5.out.size b2.size)
          clear t2 b2 s2 C5 K4 S4 K5 S5 HX4 HH4 HT4 l0 l1 l2 hl4
          have m3 : x2.cell? ⟨wr.heap.size, 3, none⟩ = some (.string (bs x.kind)) := by rw [Lib.cell_of_heap HX6.out]; rfl
          have hl6 := (Array.getElem?_eq_some_iff.1 HX6.out).1
          have n5 : (TA.add (tlInts [x.from_, x.till, x.to])).1.length = TA.1.length + 3 ∧ (TA.add (tlInts [x.from_, x.till, x.to])).2.length = TA.2.length := by simp [Tl.add, tlInts]
          have k7 := (Below.refl x2.heap.size x2).alloc (Nat.le_refl _) (.cells #[.string (bs x.kind)] 9)
          have C7 := Lib.hid (texts_tell w0.heap.size b 1 (some ⟨x2.heap.size, 0, none⟩) _ [x.kind] _ (HT5.out.grow k7) (txt_new (heap_alloc_new x2 (.cells #[.string (bs x.kind)] 9)) [x.kind] rfl) (fun _ => txtAt_new (heap_alloc_new x2 (.cells #[.string (bs x.kind)] 9))) (by rw [n5.1]; omega) (by rw [n5.2]; simp only [List.length_cons, List.length_nil]; omega) (Nat.le_trans hz6 k7.size))
          have K7 := Lib.hid (k7.mono hz6)
          have S7 := Lib.hid (still_below k7)
          clear k7
          go_upto_region 14 with fail
          go_upto_region 15 with fail
          refine C7.out.mono ?_
          rintro e x3 ⟨rfl, t3, b3, s3⟩
          have HT7 := Lib.hid t3
          have K8 := Lib.hid (K6.out.trans (K7.out.trans b3))
          have S8 := Lib.hid (S6.out.trans (S7.out.trans s3))
          have HH8 := Lib.hid ((S7.out.trans s3) _ _ _ _ HH6.out (by decide) (by decide) (by decide))
          clear t3 b3 s3 C7 K6 S6 K7 S7 HX6 HH6 HT5 m3 hl6
          have HF := Lib.hid (show (TA.add (tlInts [x.from_, x.till, x.to])).add (tlTexts [x.kind]) = u2.add (tlAll tlHnd (y.handlers.take (i + 1))) by rw [HSN.out, HTA.out]; simp only [tlHnd, Tl.add_assoc])
          go_wp2_with fail
          have hwr := wrap_next h1 (hg.2.2.2.1.1)
          refine ⟨⟨i + 1, h1, by rw [hwr], by rw [← HF.out]; exact HT7.out, K8.out, S8.out, HH8.out⟩, ?_⟩
          rw [hwr]
          exact less_next h1
        · have hie : i = y.handlers.length := by omega
          subst hie
          rw [List.take_length] at hT
          have HT23 := Lib.hid hT
          have KK23 := Lib.hid hK
          have SS23 := Lib.hid hS
          have HX23 := Lib.hid hH
          clear hT hK hS hH
          have e3 : wr.cell? ⟨w.heap.size, 5, none⟩ = some (.slice A5 y.lines.length c5) := by rw [Lib.cell_of_heap HX23.out]; rfl
          have hq4 := (Array.getElem?_eq_some_iff.1 HX23.out).1
          obtain ⟨u3, hu2⟩ : ∃ z, z = u2.add (tlAll tlHnd y.handlers) := ⟨_, rfl⟩
          rw [← hu2] at HT23
          have HV23 := Lib.hid hu2
          have HR23 := Lib.hid (fun (i : Nat) => lno_room t u1 u2 u3 y HU2.out HV23.out (by rw [← HU1.out]; simp [tlInts]) hsz i)
          clear hu2
          go_upto_region 17 with fail
          clear e3 hq4
          go_loopw [95] (fun u wr => ∃ i : Nat, i ≤ y.lines.length ∧ u = .int .i64 i ∧ TBox wr w0.heap.size b (u3.add (tlAll tlLno (y.lines.take i))) ∧ Below w0.heap.size w wr ∧ Still w wr ∧ wr.heap[w.heap.size]? = some (.cells #[.int .i64 y.stack, .int .i64 y.locals, .slice A2 y.ops.length c2, .slice A3 y.handlers.length c3, .int .i64 y.has, .slice A5 y.lines.length c5, .slice A6 y.slots.length c6] 29)) (fun u _ => y.lines.length - (intOf u).toNat)
          case atStart => exact ⟨0, Nat.zero_le _, rfl, by simpa [tlAll, Tl.add_nil] using HT23.out, KK23.out, SS23.out, HX23.out⟩
          case round =>
            obtain ⟨i, hil, rfl, hT, hK, hS, hH⟩ := hrel
            have HKi := Lib.hid hK
            have HSi := Lib.hid hS
            have HHi := Lib.hid hH
            by_cases h1 : i < y.lines.length
            · obtain ⟨g, o, x, cx, rfl, hgw, hx, hrx, hcl, hcx⟩ := HS5.out.at_ h1
              have hsi := HR23.out i
              have HSN := Lib.hid (tlAll_snoc tlLno hx)
              obtain ⟨TA, hTA⟩ : ∃ TA, TA = u3.add (tlAll tlLno (y.lines.take i)) := ⟨_, rfl⟩
              rw [← hTA] at hT hsi
              have HTi := Lib.hid hT
              have HTA := Lib.hid hTA
              clear hTA
              have hcw := hcx.grow (HB.out.trans HKi.out) hgw
              obtain rfl := Lno.leafs hrx
              have hgr : g < wr.heap.size := Nat.lt_of_lt_of_le hgw (HB.out.trans HKi.out).size
              have f0 := hcw 0 _ rfl
              have f1 := hcw 1 _ rfl
              rw [Nat.add_zero] at f0
              clear hT hK hS hH hcw hcx hrx
              go_upto_region 19 with fail
              have k4 := (Below.refl wr.heap.size wr).alloc (Nat.le_refl _) (.cells #[.int .i64 x.at_, .int .i64 x.line] 119)
              have HX4 := Lib.hid (heap_alloc_new wr (.cells #[.int .i64 x.at_, .int .i64 x.line] 119))
              have hzr := Nat.le_trans hbs HKi.out.size
              have HT4 := Lib.hid (HTi.out.grow k4)
              have K4 := Lib.hid (HKi.out.trans (k4.mono hzr))
              have S4 := Lib.hid (HSi.out.trans (still_below k4))
              have HH4 := Lib.hid ((k4.block w.heap.size (Array.getElem?_eq_some_iff.1 HHi.out).1).trans HHi.out)
              have hz4 := Nat.le_trans hzr k4.size
              clear k4 f0 f1 HTi HKi HSi HHi
              generalize hW4 : wr.alloc (.cells #[.int .i64 x.at_, .int .i64 x.line] 119) = W4 at HX4 HT4 K4 S4 HH4 hz4 ⊢
              clear hW4
              have l0 : W4.cell? ⟨wr.heap.size, 0, none⟩ = some (.int .i64 x.at_) := by rw [Lib.cell_of_heap HX4.out]; rfl
              have l1 : W4.cell? ⟨wr.heap.size, 1, none⟩ = some (.int .i64 x.line) := by rw [Lib.cell_of_heap HX4.out]; rfl
              have hl4 := (Array.getElem?_eq_some_iff.1 HX4.out).1
              have k5 := (Below.refl W4.heap.size W4).alloc (Nat.le_refl _) (.cells #[.int .i64 x.at_, .int .i64 x.line] 3)
              have C5 := Lib.hid (ints_tell w0.heap.size b 2 (some ⟨W4.heap.size, 0, none⟩) _ [x.at_, x.line] _ (HT4.out.grow k5) (ints_new (heap_alloc_new W4 (.cells #[.int .i64 x.at_, .int .i64 x.line] 3)) [x.at_, x.line] rfl) (by simp only [List.length_cons, List.length_nil]; omega) (Nat.le_trans hz4 k5.size))
              have K5 := Lib.hid (k5.mono hz4)
              have S5 := Lib.hid (still_below k5)
              clear k5
              go_wp2_with fail
              refine C5.out.mono ?_
              rintro e x2 ⟨rfl, t2, b2, s2⟩
              have HT5 := Lib.hid t2
              have K6 := Lib.hid (K4.out.trans (K5.out.trans b2))
              have S6 := Lib.hid (S4.out.trans (S5.out.trans s2))
              have HX6 := Lib.hid ((S5.out.trans s2) _ _ _ _ HX4.out (by decide) (by decide) (by decide))
              have HH6 := Lib.hid ((S5.out.trans s2) _ _ _ _ HH4.out (by decide) (by decide) (by decide))
              have hz6 := Nat.le_trans hz4 (Nat.le_trans K5.out.size b2.size)
              clear t2 b2 s2 C5 K4 S4 K5 S5 HX4 HH4 HT4 l0 l1 hl4
              have HF := Lib.hid (show TA.add (tlInts [x.at_, x.line]) = u3.add (tlAll tlLno (y.lines.take (i + 1))) by rw [HSN.out, HTA.out]; simp only [tlLno, Tl.add_assoc])
              go_wp2_with fail
              have hwr := wrap_next h1 (hg.2.2.2.2.2.1.1)
              refine ⟨⟨i + 1, h1, by rw [hwr], by rw [← HF.out]; exact HT5.out, K6.out, S6.out, HH6.out⟩, ?_⟩
              rw [hwr]
              exact less_next h1
            · have hie : i = y.lines.length := by omega
              subst hie
              rw [List.take_length] at hT
              have HT24 := Lib.hid hT
              have KK24 := Lib.hid hK
              have SS24 := Lib.hid hS
              have HX24 := Lib.hid hH
              clear hT hK hS hH
              have e3 : wr.cell? ⟨w.heap.size, 6, none⟩ = some (.slice A6 y.slots.length c6) := by rw [Lib.cell_of_heap HX24.out]; rfl
              have hq4 := (Array.getElem?_eq_some_iff.1 HX24.out).1
              obtain ⟨u4, hu2⟩ : ∃ z, z = u3.add (tlAll tlLno y.lines) := ⟨_, rfl⟩
              rw [← hu2] at HT24
              have HV24 := Lib.hid hu2
              have HR24 := Lib.hid (fun (i : Nat) => slt_room t u1 u2 u3 u4 y HU2.out HV23.out HV24.out (by rw [← HU1.out]; simp [tlInts]) hsz i)
              clear hu2
              go_upto_region 22 with fail
              clear e3 hq4
              go_loopw [110] (fun u wr => ∃ i : Nat, i ≤ y.slots.length ∧ u = .int .i64 i ∧ TBox wr w0.heap.size b (u4.add (tlAll tlSlt (y.slots.take i))) ∧ Below w0.heap.size w wr ∧ Still w wr ∧ wr.heap[w.heap.size]? = some (.cells #[.int .i64 y.stack, .int .i64 y.locals, .slice A2 y.ops.length c2, .slice A3 y.handlers.length c3, .int .i64 y.has, .slice A5 y.lines.length c5, .slice A6 y.slots.length c6] 29)) (fun u _ => y.slots.length - (intOf u).toNat)
              case atStart => exact ⟨0, Nat.zero_le _, rfl, by simpa [tlAll, Tl.add_nil] using HT24.out, KK24.out, SS24.out, HX24.out⟩
              case round =>
                obtain ⟨i, hil, rfl, hT, hK, hS, hH⟩ := hrel
                have HKi := Lib.hid hK
                have HSi := Lib.hid hS
                have HHi := Lib.hid hH
                by_cases h1 : i < y.slots.length
                · obtain ⟨g, o, x, cx, rfl, hgw, hx, hrx, hcl, hcx⟩ := HS6.out.at_ h1
                  have hsi := HR24.out i
                  have HSN := Lib.hid (tlAll_snoc tlSlt hx)
                  obtain ⟨TA, hTA⟩ : ∃ TA, TA = u4.add (tlAll tlSlt (y.slots.take i)) := ⟨_, rfl⟩
                  rw [← hTA] at hT hsi
                  have HTi := Lib.hid hT
                  have HTA := Lib.hid hTA
                  clear hTA
                  have hcw := hcx.grow (HB.out.trans HKi.out) hgw
                  obtain rfl := Slt.leafs hrx
                  have hgr : g < wr.heap.size := Nat.lt_of_lt_of_le hgw (HB.out.trans HKi.out).size
                  have f0 := hcw 0 _ rfl
                  have f1 := hcw 1 _ rfl
                  have f2 := hcw 2 _ rfl
                  have f3 := hcw 3 _ rfl
                  have f4 := hcw 4 _ rfl
                  rw [Nat.add_zero] at f0
                  clear hT hK hS hH hcw hcx hrx
                  go_upto_region 24 with fail
                  have k4 := (Below.refl wr.heap.size wr).alloc (Nat.le_refl _) (.cells #[.int .i64 x.from_, .int .i64 x.till, .string (bs x.name), .string (bs x.desc), .int .i64 x.var] 122)
                  have HX4 := Lib.hid (heap_alloc_new wr (.cells #[.int .i64 x.from_, .int .i64 x.till, .string (bs x.name), .string (bs x.desc), .int .i64 x.var] 122))
                  have hzr := Nat.le_trans hbs HKi.out.size
                  have HT4 := Lib.hid (HTi.out.grow k4)
                  have K4 := Lib.hid (HKi.out.trans (k4.mono hzr))
                  have S4 := Lib.hid (HSi.out.trans (still_below k4))
                  have HH4 := Lib.hid ((k4.block w.heap.size (Array.getElem?_eq_some_iff.1 HHi.out).1).trans HHi.out)
                  have hz4 := Nat.le_trans hzr k4.size
                  clear k4 f0 f1 f2 f3 f4 HTi HKi HSi HHi
                  generalize hW4 : wr.alloc (.cells #[.int .i64 x.from_, .int .i64 x.till, .string (bs x.name), .string (bs x.desc), .int .i64 x.var] 122) = W4 at HX4 HT4 K4 S4 HH4 hz4 ⊢
                  clear hW4
                  have l0 : W4.cell? ⟨wr.heap.size, 0, none⟩ = some (.int .i64 x.from_) := by rw [Lib.cell_of_heap HX4.out]; rfl
                  have l1 : W4.cell? ⟨wr.heap.size, 1, none⟩ = some (.int .i64 x.till) := by rw [Lib.cell_of_heap HX4.out]; rfl
                  have l4 : W4.cell? ⟨wr.heap.size, 4, none⟩ = some (.int .i64 x.var) := by rw [Lib.cell_of_heap HX4.out]; rfl
                  have hl4 := (Array.getElem?_eq_some_iff.1 HX4.out).1
                  have k5 := (Below.refl W4.heap.size W4).alloc (Nat.le_refl _) (.cells #[.int .i64 x.from_, .int .i64 x.till, .int .i64 x.var] 3)
                  have C5 := Lib.hid (ints_tell w0.heap.size b 3 (some ⟨W4.heap.size, 0, none⟩) _ [x.from_, x.till, x.var] _ (HT4.out.grow k5) (ints_new (heap_alloc_new W4 (.cells #[.int .i64 x.from_, .int .i64 x.till, .int .i64 x.var] 3)) [x.from_, x.till, x.var] rfl) (by simp only [List.length_cons, List.length_nil]; omega) (Nat.le_trans hz4 k5.size))
                  have K5 := Lib.hid (k5.mono hz4)
                  have S5 := Lib.hid (still_below k5)
                  clear k5
                  go_upto_region 25 with fail
                  refine C5.out.mono ?_
                  rintro e x2 ⟨rfl, t2, b2, s2⟩
                  have HT5 := Lib.hid t2
                  have K6 := Lib.hid (K4.out.trans (K5.out.trans b2))
                  have S6 := Lib.hid (S4.out.trans (S5.out.trans s2))
                  have HX6 := Lib.hid ((S5.out.trans s2) _ _ _ _ HX4.out (by decide) (by decide) (by decide))
                  have HH6 := Lib.hid ((S5.out.trans s2) _ _ _ _ HH4.out (by decide) (by decide) (by decide))
                  have hz6 := Nat.le_trans hz4 (Nat.le_trans K5.out.size b2.size)
                  clear t2 b2 s2 C5 K4 S4 K5 S5 HX4 HH4 HT4 l0 l1 l4 hl4
                  have m2 : x2.cell? ⟨wr.heap.size, 2, none⟩ = some (.string (bs x.name)) := by rw [Lib.cell_of_heap HX6.out]; rfl
                  have m3 : x2.cell? ⟨wr.heap.size, 3, none⟩ = some (.string (bs x.desc)) := by rw [Lib.cell_of_heap HX6.out]; rfl
                  have hl6 := (Array.getElem?_eq_some_iff.1 HX6.out).1
                  have n5 : (TA.add (tlInts [x.from_, x.till, x.var])).1.length = TA.1.length + 3 ∧ (TA.add (tlInts [x.from_, x.till, x.var])).2.length = TA.2.length := by simp [Tl.add, tlInts]
                  have k7 := (Below.refl x2.heap.size x2).alloc (Nat.le_refl _) (.cells #[.string (bs x.name), .string (bs x.desc)] 9)
                  have C7 := Lib.hid (texts_tell w0.heap.size b 2 (some ⟨x2.heap.size, 0, none⟩) _ [x.name, x.desc] _ (HT5.out.grow k7) (txt_new (heap_alloc_new x2 (.cells #[.string (bs x.name), .string (bs x.desc)] 9)) [x.name, x.desc] rfl) (fun _ => txtAt_new (heap_alloc_new x2 (.cells #[.string (bs x.name), .string (bs x.desc)] 9))) (by rw [n5.1]; omega) (by rw [n5.2]; simp only [List.length_cons, List.length_nil]; omega) (Nat.le_trans hz6 k7.size))
                  have K7 := Lib.hid (k7.mono hz6)
                  have S7 := Lib.hid (still_below k7)
                  clear k7
                  go_upto_region 25 with fail
                  go_upto_region 26 with fail
                  refine C7.out.mono ?_
                  rintro e x3 ⟨rfl, t3, b3, s3⟩
                  have HT7 := Lib.hid t3
                  have K8 := Lib.hid (K6.out.trans (K7.out.trans b3))
                  have S8 := Lib.hid (S6.out.trans (S7.out.trans s3))
                  have HH8 := Lib.hid ((S7.out.trans s3) _ _ _ _ HH6.out (by decide) (by decide) (by decide))
                  clear t3 b3 s3 C7 K6 S6 K7 S7 HX6 HH6 HT5 m2 m3 hl6
                  have HF := Lib.hid (show (TA.add (tlInts [x.from_, x.till, x.var])).add (tlTexts [x.name, x.desc]) = u4.add (tlAll tlSlt (y.slots.take (i + 1))) by rw [HSN.out, HTA.out]; simp only [tlSlt, Tl.add_assoc])
                  go_wp2_with fail
                  have hwr := wrap_next h1 (hg.2.2.2.2.2.2.1)
                  refine ⟨⟨i + 1, h1, by rw [hwr], by rw [← HF.out]; exact HT7.out, K8.out, S8.out, HH8.out⟩, ?_⟩
                  rw [hwr]
                  exact less_next h1
                · have hie : i = y.slots.length := by omega
                  subst hie
                  rw [List.take_length] at hT
                  have HT25 := Lib.hid hT
                  have KK25 := Lib.hid hK
                  have SS25 := Lib.hid hS
                  have HX25 := Lib.hid hH
                  clear hT hK hS hH
                  have HE := Lib.hid (show u4.add (tlAll tlSlt y.slots) = t.add (tlCode y) by rw [HV24.out, HV23.out, HU2.out, ← HU1.out]; simp only [tlCode, Tl.add_assoc])
                  go_wp2_with fail
                  go_end0
                  exact ⟨rfl, by rw [← HE.out]; exact HT25.out, KK25.out, SS25.out⟩
end Go.Proofs.YtibogpidnnodnaaGreatDoor
