/- A writer of bits: what is written as one number, and how long it is; its box, its row of bytes, what else turns. -/
import Derived.Test.YtjbbhfloomejoaaBig
import Derived.Test.YtjbbhfloomejoaaSignB
import Derived.Laws.BitsLemmas
import Derived.Lib.EndianBits
import Derived.BigRegion
import Derived.Deep.RegionLaw
import Derived.Test.YtjbbhfloomejoaaOrder
namespace Go.Proofs.Ytjbbhfloomejoaa
open Go.RowKit

/-- The lowest bytes of a number. -/
def byts (V k : Nat) : List UInt8 := (List.range k).map fun i => UInt8.ofNat (V / 256 ^ i)
theorem byts_len (V k : Nat) : (byts V k).length = k := by simp [byts]
theorem byts_succ (V k : Nat) : byts V (k + 1) = byts V k ++ [UInt8.ofNat (V / 256 ^ k)] := by simp [byts, List.range_succ]
theorem Bt.two (L : Nat) : (2 : Nat) ^ L = 256 ^ (L / 8) * 2 ^ (L % 8) := by
  conv => lhs; rw [← Nat.div_add_mod L 8]
  rw [Nat.pow_add, Nat.pow_mul]
theorem byts_add (V x L : Nat) : byts (V + x * 2 ^ L) (L / 8) = byts V (L / 8) := by
  unfold byts
  refine List.map_congr_left fun i hi => ?_
  have hi := List.mem_range.1 hi
  have h1 : (2 : Nat) ^ L = 256 ^ i * (256 * 2 ^ (L - 8 * i - 8)) := by
    have e : L = 8 * i + (8 + (L - 8 * i - 8)) := by omega
    conv => lhs; rw [e]
    rw [Nat.pow_add, Nat.pow_mul, Nat.pow_add]
  apply UInt8.toNat_inj.1
  rw [u8_toNat, u8_toNat, h1, show x * (256 ^ i * (256 * 2 ^ (L - 8 * i - 8))) = 256 ^ i * (256 * (x * 2 ^ (L - 8 * i - 8))) from by ac_rfl, Nat.add_mul_div_left _ _ (Nat.pow_pos (by decide)), Nat.add_mul_mod_self_left]
theorem Bt.held {V L : Nat} (h : V < 2 ^ L) : V / 256 ^ (L / 8) < 2 ^ (L % 8) := by
  rw [Bt.two L] at h
  exact Nat.div_lt_of_lt_mul h
theorem Bt.held_add (V x L : Nat) : (V + x * 2 ^ L) / 256 ^ (L / 8) = V / 256 ^ (L / 8) + x * 2 ^ (L % 8) := by
  rw [Bt.two L, show x * (256 ^ (L / 8) * 2 ^ (L % 8)) = 256 ^ (L / 8) * (x * 2 ^ (L % 8)) from by ac_rfl, Nat.add_mul_div_left _ _ (Nat.pow_pos (by decide))]
theorem Bt.lt_add {V L : Nat} (h : V < 2 ^ L) (v k : Nat) : V + v % 2 ^ k * 2 ^ L < 2 ^ (L + k) := by
  have h1 := Nat.mod_lt v (Nat.two_pow_pos k)
  have h2 : v % 2 ^ k * 2 ^ L + 2 ^ L ≤ 2 ^ k * 2 ^ L := by
    have := Nat.mul_le_mul_right (2 ^ L) (Nat.succ_le_of_lt h1)
    rwa [Nat.succ_mul] at this
  rw [Nat.pow_add, Nat.mul_comm (2 ^ L)]
  omega
theorem Bt.shr (V j : Nat) : V / 256 ^ j / 256 = V / 256 ^ (j + 1) := by rw [Nat.div_div_eq_div_mul, Nat.pow_succ]
theorem Bt.wraps (n : Int) (h₀ : 0 ≤ n) (h₁ : n < 2 ^ 64) : IntKind.u64.wrap n = n := by rw [IntKind.wrap_u64]; omega
/-- 'v & (1 << k - 1)' of numbers of 64 bits. -/
theorem Bt.mask (v k : Nat) (hv : v < 2 ^ 64) (hk : k ≤ 64) : bits .and .u64 (v : Int) ((2 : Int) ^ k - 1) = ((v % 2 ^ k : Nat) : Int) := by
  rw [bits_mask .u64 64 (by decide) Bt.wraps k hk (v : Int) (by omega) (by exact_mod_cast hv)]
  push_cast
  rfl
theorem Bt.join (h y n : Nat) (hh : h < 2 ^ n) (h2 : h < 2 ^ 64) (hy : y * 2 ^ n < 2 ^ 64) : bits .or .u64 (h : Int) ((y * 2 ^ n : Nat) : Int) = ((h + y * 2 ^ n : Nat) : Int) := by
  rw [bits_join_low .u64 64 (by decide) Bt.wraps n (h : Int) ((y * 2 ^ n : Nat) : Int) (by omega) (by exact_mod_cast hh) (by exact_mod_cast h2) (by omega) (by
    simp) (by exact_mod_cast hy)]
  push_cast
  rfl
theorem Bt.put (hd v n k : Nat) (hh : hd < 2 ^ n) (hn : n ≤ 7) (hv : v < 4294967296) (hk : k ≤ 32) :
    bits .or .u64 (hd : Int) (IntKind.u64.wrap (bits .and .u64 (v : Int) (IntKind.u64.wrap (IntKind.u64.wrap (2 ^ k) - 1)) * 2 ^ n)) = ((hd + v % 2 ^ k * 2 ^ n : Nat) : Int) := by
  have p1 : (2 : Nat) ^ k ≤ 2 ^ 32 := Nat.pow_le_pow_right (by decide) hk
  have p0 : 0 < (2 : Nat) ^ k := Nat.two_pow_pos k
  have p2 : (2 : Nat) ^ n ≤ 2 ^ 7 := Nat.pow_le_pow_right (by decide) hn
  have c1 : ((2 : Int) ^ k) = ((2 ^ k : Nat) : Int) := by push_cast; rfl
  have c2 : ((2 : Int) ^ n) = ((2 ^ n : Nat) : Int) := by push_cast; rfl
  have p3 : (2 : Nat) ^ 32 = 4294967296 := by decide
  have e1 : IntKind.u64.wrap ((2 : Int) ^ k) = 2 ^ k := Bt.wraps _ (by rw [c1]; omega) (by rw [c1]; omega)
  have e2 : IntKind.u64.wrap ((2 : Int) ^ k - 1) = 2 ^ k - 1 := Bt.wraps _ (by rw [c1]; omega) (by rw [c1]; omega)
  have hm : v % 2 ^ k ≤ v := Nat.mod_le _ _
  have e3 : v % 2 ^ k * 2 ^ n ≤ 4294967296 * 2 ^ 7 := Nat.mul_le_mul (by omega) p2
  rw [e1, e2, Bt.mask v k (by omega) (by omega), c2, ← Int.natCast_mul, Bt.wraps _ (by omega) (by omega), Bt.join hd _ n hh (by omega) (by omega)]
/-- A writer's box. -/
def WBox (w : World) (b : Nat) (u : Value) (h n : Nat) : Prop := w.heap[b]? = some (.cells #[u, .int .u64 (h : Nat), .int .i64 (n : Nat)] 52 (0, 0))
theorem set_at' {X : World} {B k : Nat} {cs : Array Value} {t : TypeId} (h : X.heap[B]? = some (.cells cs t (0, 0))) (v : Value) : (X.setCell ⟨B, k, none⟩ v).heap[B]? = some (.cells (cs.setIfInBounds k v) t (0, 0)) := by
  simp only [World.setCell, Array.getElem?_modify, if_true, h, Option.map_some]
  rfl
theorem set_else' {X : World} (p : Addr) (v : Value) {j : Nat} (h : p.block ≠ j) : (X.setCell p v).heap[j]? = X.heap[j]? := by
  simp only [World.setCell, Array.getElem?_modify, if_neg h]
theorem WBox.row {w : World} {b : Nat} {u : Value} {h n : Nat} (k : WBox w b u h n) (u' : Value) : WBox (w.setCell ⟨b, 0, none⟩ u') b u' h n := set_at' (k := 0) k u'
theorem WBox.hold {w : World} {b : Nat} {u : Value} {h n : Nat} (k : WBox w b u h n) (h' : Nat) : WBox (w.setCell ⟨b, 1, none⟩ (.int .u64 (h' : Nat))) b u h' n := set_at' (k := 1) k _
theorem WBox.many {w : World} {b : Nat} {u : Value} {h n : Nat} (k : WBox w b u h n) (n' : Nat) : WBox (w.setCell ⟨b, 2, none⟩ (.int .i64 (n' : Nat))) b u h n' := set_at' (k := 2) k _
theorem WBox.lt {w : World} {b : Nat} {u : Value} {h n : Nat} (k : WBox w b u h n) : b < w.heap.size := (Array.getElem?_eq_some_iff.1 k).1
/-- What a writer's call turns: its box, and its row of bytes (or a new one). -/
def WFrm (x y : World) (b : Nat) (o o' : Option Nat) : Prop :=
  (y.os = x.os ∧ y.tape = x.tape ∧ y.output = x.output ∧ x.heap.size ≤ y.heap.size ∧ ∀ g, g < x.heap.size → g ≠ b → some g ≠ o → y.heap[g]? = x.heap[g]?) ∧ (o' = o ∨ ∃ g, x.heap.size ≤ g ∧ o' = some g)
theorem WFrm.refl (x : World) (b : Nat) (o : Option Nat) : WFrm x x b o o := ⟨⟨rfl, rfl, rfl, Nat.le_refl _, fun _ _ _ _ => rfl⟩, .inl rfl⟩
theorem WFrm.trans {x y z : World} {b : Nat} {o o1 o2 : Option Nat} (h : WFrm x y b o o1) (k : WFrm y z b o1 o2) : WFrm x z b o o2 := by
  obtain ⟨⟨a1, a2, a3, a4, a5⟩, a6⟩ := h
  obtain ⟨⟨b1, b2, b3, b4, b5⟩, b6⟩ := k
  refine ⟨⟨b1.trans a1, b2.trans a2, b3.trans a3, Nat.le_trans a4 b4, fun g hg hb ho => (b5 g (Nat.lt_of_lt_of_le hg a4) hb (fun e => ?_)).trans (a5 g hg hb ho)⟩, ?_⟩
  · rcases a6 with a6 | ⟨g', hg', a6⟩
    · exact ho (e.trans a6)
    · rw [a6] at e; cases e; omega
  · rcases b6 with b6 | ⟨g', hg', b6⟩
    · rcases a6 with a6 | ⟨g', hg', a6⟩
      · exact .inl (b6.trans a6)
      · exact .inr ⟨g', hg', b6.trans a6⟩
    · exact .inr ⟨g', Nat.le_trans a4 hg', b6⟩
theorem WFrm.hop {x y : World} {o o' : Option Nat} (h : Hop x y o o') (b : Nat) : WFrm x y b o o' := ⟨⟨h.1.os, h.1.tape, h.1.output, h.1.size, fun g hg _ ho => h.1.block g hg ho⟩, h.2⟩
theorem WFrm.grow {x y : World} (k : Below x.heap.size x y) (b : Nat) (o : Option Nat) : WFrm x y b o o := ⟨⟨k.os, k.tape, k.output, k.size, fun g hg _ _ => k.block g hg⟩, .inl rfl⟩
theorem WFrm.set (x : World) (b i : Nat) (v : Value) (o : Option Nat) : WFrm x (x.setCell ⟨b, i, none⟩ v) b o o :=
  ⟨⟨rfl, rfl, rfl, by simp [World.setCell], fun g _ hb _ => set_else' _ _ (by show b ≠ g; omega)⟩, .inl rfl⟩
theorem WFrm.below {x y : World} {b base : Nat} {o o' : Option Nat} (h : WFrm x y b o o') (hb : base ≤ b) (hx : base ≤ x.heap.size) (ho : ∀ k, o = some k → base ≤ k) : Below base x y := by
  obtain ⟨⟨a1, a2, a3, a4, a5⟩, _⟩ := h
  exact ⟨a1, a2, a3, a4, fun g hg => a5 g (by omega) (by omega) (fun e => by have := ho g e.symm; omega)⟩
/-- The writer on its way: j bytes of V stand in its row, the rest is held; so many bits in all. -/
structure WrJ (x : World) (base b : Nat) (u : Value) (V L j : Nat) : Prop where
  box : WBox x b u (V / 256 ^ j) (L - 8 * j)
  row : BRow x base 5 u (byts V j)
  le : base ≤ b
theorem WrJ.apart {x : World} {base b : Nat} {u : Value} {V L j : Nat} (h : WrJ x base b u V L j) : some b ≠ u.ownBlock := own_ne h.row h.box (by decide)
theorem WrJ.base {x : World} {base b : Nat} {u : Value} {V L j : Nat} (h : WrJ x base b u V L j) : base ≤ x.heap.size := Nat.le_trans h.le (Nat.le_of_lt h.box.lt)
theorem WrJ.own {x : World} {base b : Nat} {u : Value} {V L j : Nat} (h : WrJ x base b u V L j) {k : Nat} (hk : u.ownBlock = some k) : base ≤ k := (World.ownsRow.lt h.row k hk).1
/-- The writer: V is written, in L bits. -/
structure Wr (x : World) (base b : Nat) (u : Value) (V L : Nat) : Prop where
  at_ : WrJ x base b u V L (L / 8)
  lt : V < 2 ^ L
theorem WrJ.grow {x y : World} {base b : Nat} {u : Value} {V L j : Nat} (h : WrJ x base b u V L j) (k : Below x.heap.size x y) : WrJ y base b u V L j := ⟨(k.block b h.box.lt).trans h.box, h.row.grow k, h.le⟩
theorem Wr.grow {x y : World} {base b : Nat} {u : Value} {V L : Nat} (h : Wr x base b u V L) (k : Below x.heap.size x y) : Wr y base b u V L := ⟨h.at_.grow k, h.lt⟩
theorem Wr.frm {x y : World} {base b : Nat} {u : Value} {V L : Nat} {o' : Option Nat} (h : Wr x base b u V L) (k : WFrm x y b u.ownBlock o') : Below base x y := k.below h.at_.le h.at_.base fun _ e => h.at_.own e
theorem BRow.setElse {x : World} {base : Nat} {u : Value} {l : List UInt8} (h : BRow x base 5 u l) {b i : Nat} (v : Value) (hb : some b ≠ u.ownBlock) : BRow (x.setCell ⟨b, i, none⟩ v) base 5 u l := by
  have k : x.grownBy (x.setCell ⟨b, i, none⟩ v) (some b) := ⟨rfl, rfl, rfl, by simp [World.setCell], fun g _ hg => set_else' _ _ (by show b ≠ g; exact fun e => hg (by rw [e]))⟩
  exact World.ownsRow.kept h k (by rcases hu : u.ownBlock with _ | g <;> simp_all <;> omega)
end Go.Proofs.Ytjbbhfloomejoaa
