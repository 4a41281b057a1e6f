/- Joined texts: Texts, WalksD, WalksE, WalksF, WalksG, Lines, PlainB, WalksH, WalksI, Lens, RefA, Told, Slice, Field. -/
import Derived.Test.YtpjafbinlklojaaDoorPk1
import Derived.Test.YtpjafbinlklojaaDoorProg
import Derived.Lib.Hide
import Derived.Laws.OwnMore
import Derived.Laws.AppendOwn
import Derived.Test.YtpjafbinlklojaaDoorPk2
import Derived.Lib.AppendIntMem
import Derived.Deep.Cut
import Derived.RowKit
import Derived.Test.YtpjafbinlklojaaDoorRows
import Derived.ProofKit
import Derived.OpenShut
import Derived.Deep.Slices
import Derived.SizedLaws
import Derived.ChangeArms
import Derived.Below
/- Rows of texts: of the call's own, and read. -/
namespace Go.Proofs.YtpjafbinlklojaaDoor
open Go.RowKit

theorem infoStr : (Tryd.prog.info? 9).map (fun i => (i.zero, i.size, i.bytes)) = some (some (.string ⟨#[]⟩), 1, 16) := by kernel_rfl
/-- A row of texts of the call's own. -/
def TRow (w : World) (base : Nat) (v : Value) (xs : List (List UInt8)) : Prop := SRow w base 9 v xs
theorem TRow.grow {w w1 : World} {base : Nat} {v : Value} {xs : List (List UInt8)} (h : TRow w base v xs) (k : Below w.heap.size w w1) : TRow w1 base v xs := SRow.grow h k
theorem TRow.nil (w : World) (base : Nat) : TRow w base (.slice none 0 0) [] := SRow.nil w base 9
theorem TRow.one (w : World) (base : Nat) (h : base ≤ w.heap.size) (x : List UInt8) : TRow (w.alloc (.cells #[.string (bs x)] 9)) base (.slice (some ⟨w.heap.size, 0, none⟩) 1 1) [x] := by
  have := World.ownsRow_lit (base := base) (e := 9) (size := 1) w #[.string (bs x)] 1 h (by unfold maxLen; omega) rfl
  exact this
theorem wpList_appS {w : World} {ops : Array Oper} {rest : List Oper} {o : Oper} {a : Act} {Q : Exit → Act → World → Prop} (hgd : o.guard = none) (s x : Operand)
    (ho : o.op = .call { callee := .builtin .append, args := #[s, x], argTypes := #[22, 22] })
    (base : Nat) (v : Value) (xs : List (List UInt8)) (hv : a.eval s = v) (hown : TRow w base v xs) (B : Nat) (n : List UInt8) (t : TypeId) (fr : Nat × Nat) (hX : a.eval x = .slice (some ⟨B, 0, none⟩) 1 1)
    (hb : w.heap[B]? = some (.cells #[.string (bs n)] t fr)) (hn : xs.length ≤ 1000000000000) (hbase : base ≤ w.heap.size)
    (h : ∀ v' w', TRow w' base v' (xs ++ [n]) → Hop w w' v.ownBlock v'.ownBlock → wpList Tryd.prog ops Q rest (a.put o.dst v') w') : wpList Tryd.prog ops Q (o :: rest) a w := by
  obtain ⟨i0, hi, hz0, hz1, hz2⟩ := info_parts infoStr
  refine wpList_append_row hgd s x 22 22 ho base 9 i0 (.string ⟨#[]⟩) 1 16 Tryd.underlying22 hi hz0 hz1 hz2 rfl v _ _ hv hown _ 1 [.string (bs n)] hX (fun v' w' h1 h2 => h v' w' (SRow.app (ys := [n]) h1 rfl) h2) ?_ ?_ ?_ hbase
  · exact src_block Tryd.underlying22 1 1 1 _ #[.string (bs n)] _ _ hb rfl (by simp [Value.oneCell'])
  · unfold maxLen; omega
  · omega
/-- A row of texts that is read. -/
def Txt (w : World) (A : Option Addr) (c : Nat) (xs : List (List UInt8)) : Prop :=
  xs.length ≤ c ∧ (0 < xs.length → ∃ g o, A = some ⟨g, o, none⟩ ∧ g < w.heap.size ∧ ∀ (j : Nat) x, xs[j]? = some x → w.cell? ⟨g, o + j, none⟩ = some (.string (bs x)))
theorem Txt.grow {w w' : World} {A : Option Addr} {c : Nat} {xs : List (List UInt8)} (h : Txt w A c xs) (k : Below w.heap.size w w') : Txt w' A c xs :=
  ⟨h.1, fun hp => by
    obtain ⟨g, o, e, hg, hc⟩ := h.2 hp
    exact ⟨g, o, e, Nat.lt_of_lt_of_le hg k.size, fun j x hx => (k.cell (p := ⟨g, _, none⟩) hg).trans (hc j x hx)⟩⟩
theorem Txt.nil (w : World) (A : Option Addr) (c : Nat) : Txt w A c [] := ⟨Nat.zero_le _, fun h => by simp at h⟩
theorem Txt.at_ {w : World} {A : Option Addr} {c : Nat} {xs : List (List UInt8)} (h : Txt w A c xs) {i : Nat} (hi : i < xs.length) : ∃ g o x, A = some ⟨g, o, none⟩ ∧ g < w.heap.size ∧ xs[i]? = some x ∧ w.cell? ⟨g, o + i, none⟩ = some (.string (bs x)) := by
  obtain ⟨g, o, e, hg, hc⟩ := h.2 (by omega)
  exact ⟨g, o, _, e, hg, List.getElem?_eq_getElem hi, hc i _ (List.getElem?_eq_getElem hi)⟩
theorem TRow.reads {w : World} {base : Nat} {v : Value} {xs : List (List UInt8)} (h : TRow w base v xs) : ∃ A c, v = .slice A xs.length c ∧ Txt w A c xs := by
  rcases SRow.cases h with ⟨rfl, rfl⟩ | ⟨g, cap, rfl, _, hg, hc, hx⟩
  · exact ⟨none, 0, rfl, Txt.nil _ _ _⟩
  · exact ⟨_, cap, rfl, hc, fun _ => ⟨g, 0, rfl, hg, fun j x hj => by rw [Nat.zero_add]; exact hx j x hj⟩⟩
theorem TRow.kept {w w1 : World} {base : Nat} {v : Value} {xs : List (List UInt8)} {row : Option Nat} (h : TRow w base v xs) (g : w.grownBy w1 row) (hne : ∀ k, v.ownBlock = some k → row ≠ some k) : TRow w1 base v xs :=
  World.ownsRow.kept h g (by
    cases e : v.ownBlock with
    | none => exact .inl rfl
    | some k => exact .inr (fun e2 => hne k e e2.symm))
theorem TRow.cells {w : World} {base : Nat} {v : Value} {xs : List (List UInt8)} (h : TRow w base v xs) {g : Nat} (hg : v.ownBlock = some g) : base ≤ g ∧ ∃ cur, w.heap[g]? = some (.cells cur 9 (0, 0)) := by
  rcases h.2 with ⟨h, _⟩ | ⟨g', cap, cur, h, h1, hg', _⟩
  · rw [h] at hg; simp [Value.ownBlock] at hg
  · rw [h] at hg
    simp [Value.ownBlock] at hg
    subst hg
    exact ⟨h1, cur, hg'⟩
end Go.Proofs.YtpjafbinlklojaaDoor

/- The walk of layer 35's words of numbers. -/
namespace Go.Proofs.YtpjafbinlklojaaDoor
open Go.RowKit

/-- Words of numbers. -/
def Li.ints (ns : List Int) : List UInt8 := Li.line (ns.map Lib.itoa)
theorem ints_len {ns : List Int} (h : ∀ x ∈ ns, I64 x) : (Li.ints ns).length ≤ ns.length * 21 := by
  have := line_len 20 (ns.map Lib.itoa) (fun x hx => by
    obtain ⟨y, hy, rfl⟩ := List.mem_map.1 hx
    exact itoa_len (h y hy))
  rwa [List.length_map] at this
theorem take_snocI {α : Type} (l : List α) (i : Nat) (x : α) (h : l[i]? = some x) : l.take (i + 1) = l.take i ++ [x] := by
  obtain ⟨h1, rfl⟩ := List.getElem?_eq_some_iff.1 h
  exact List.take_succ_eq_append_getElem h1

set_option maxHeartbeats 4000000 in
set_option maxRecDepth 100000 in
theorem ints_any (ns : List Int) (bk o c : Nat) (w : World) (hcells : ∀ (j : Nat) x, ns[j]? = some x → w.cell? ⟨bk, o + j, none⟩ = some (.int .i64 x)) (hbk : bk < w.heap.size) (_hcap : ns.length ≤ c) (hI : ∀ x ∈ ns, I64 x) (hn : ns.length ≤ 1000000) (ht : TabP w) :
    Calls Tryd.prog 15 #[.slice (some ⟨bk, o, none⟩) ns.length c] w fun e w' => e = .returned (.string (bs (Li.ints ns))) ∧ Below w.heap.size w w' := by
  obtain ⟨i0, hi, hz0, hz1, hz2⟩ := info_parts infoStr
  have HC := Lib.hid hcells
  have HI := Lib.hid hI
  have HT := Lib.hid ht
  clear hcells hI ht
  go_enter Tryd.func15, Tryd.ntmps15
  go_wp2_with fail
  go_loopw [3, 8] (fun v u wr => ∃ i : Nat, i ≤ ns.length ∧ u = .int .i64 i ∧ SRow wr w.heap.size 9 v ((ns.map Lib.itoa).take i) ∧ Below w.heap.size w wr) (fun _ u _ => ns.length - (intOf u).toNat)
  case atStart => exact ⟨0, Nat.zero_le _, rfl, SRow.nil _ _ _, Below.refl _ _⟩
  case round =>
    obtain ⟨i, hil, rfl, hrow, hB⟩ := hrel
    have hrow' := Lib.hid hrow
    have hB' := Lib.hid hB
    by_cases h1 : i < ns.length
    · have hget := List.getElem?_eq_getElem h1
      have hcell : wr.cell? ⟨bk, o + i, none⟩ = some (.int .i64 ns[i]) := by rw [World.cell?_of_block (hB.block bk hbk)]; exact HC.out i _ hget
      have hx := HI.out _ (List.mem_of_getElem? hget)
      have hsn := Lib.hid (take_snocI (ns.map Lib.itoa) i (Lib.itoa ns[i]) (by rw [List.getElem?_map, hget]; rfl))
      have hlt := Lib.hid (show ((ns.map Lib.itoa).take i).length = i by rw [List.length_take, List.length_map]; omega)
      generalize ns[i] = x at *
      have hIt := Lib.hid (itoa_any x wr hx (tab_below HT.out hB))
      have hbk2 : bk < wr.heap.size := Nat.lt_of_lt_of_le hbk hB.size
      have hzB := hB.size
      clear hrow hB hget
      go_wp2_with fail
      refine hIt.out.mono ?_
      rintro e w1 ⟨rfl, hb⟩
      have hb' := Lib.hid hb
      have hz1' := hb.size
      clear hb
      go_wp2_with (at_builtin; (refine wpList_append_row rfl _ _ 22 22 rfl w.heap.size 9 i0 (.string ⟨#[]⟩) 1 16 Tryd.underlying22 hi hz0 hz1 hz2 rfl u3 _ _ rfl ((hrow'.out.grow hb'.out).grow ((Below.refl _ _).alloc (Nat.le_refl _) _)) (.slice (some ⟨w1.heap.size, 0, none⟩) 1 1) 1 [.string (bs (Lib.itoa x))] rfl ?_ ?c0 ?c1 ?c2 ?c3))
      case c0 => exact src_block Tryd.underlying22 1 1 1 _ #[.string (bs (Lib.itoa x))] _ _ (heap_alloc_new _ _) rfl (by simp [Value.oneCell'])
      case c1 => rw [hlt.out]; unfold maxLen; omega
      case c2 => rw [hlt.out]; omega
      case c3 => rw [World.size_alloc]; omega
      intro v' w2 hown hhop
      have hown' := Lib.hid (SRow.app (xs := (ns.map Lib.itoa).take i) (ys := [Lib.itoa x]) hown (by rw [hlt.out]; rfl))
      have hhop' := Lib.hid hhop
      clear hown hhop
      go_wp2
      refine ⟨⟨i + 1, h1, rfl, by rw [hsn.out]; exact hown'.out, ?_⟩, ?_⟩
      · refine ((hB'.out.trans (hb'.out.mono hB'.out.size)).alloc (Nat.le_trans hB'.out.size hb'.out.size) _).trans (hhop'.out.below (by rw [World.size_alloc]; omega) (fun k e => (hrow'.out.lt k e).1))
      · show ns.length - ((i : Int) + 1).toNat < ns.length - (i : Int).toNat
        omega
    · have hfin : (ns.map Lib.itoa).take i = ns.map Lib.itoa := List.take_of_length_le (by rw [List.length_map]; omega)
      rw [hfin] at hrow
      have hlen := ints_len HI.out
      have hL := Lib.hid (line_row hrow (by rw [List.length_map]; omega) (show (Li.ints ns).length ≤ 1000000000 by omega))
      clear hrow hB hlen
      go_wp2_with fail
      refine hL.out.mono ?_
      rintro e w1 ⟨rfl, hb⟩
      have hb' := Lib.hid hb
      clear hb
      go_wp2
      go_ret
      exact ⟨rfl, hB'.out.trans (hb'.out.mono hB'.out.size)⟩
end Go.Proofs.YtpjafbinlklojaaDoor

/- The walk of the library's numerals of uint64, base 10. -/
namespace Go.Proofs.YtpjafbinlklojaaDoor
open Go.RowKit Go.Sort

set_option maxHeartbeats 6400000 in
set_option maxRecDepth 100000 in
theorem iformatUint (u : Nat) (h : u < 18446744073709551616) (w : World) (ht : TabP w) :
    Calls Tryd.prog 38 #[.int .u64 u, .int .i64 10] w fun e w' => e = .returned (.string (bs (Lib.decDigits u))) ∧ Below w.heap.size w w' := by
  by_cases hs : u < 100
  · have HS := Lib.hid (Tryd.internal_strconv_small u hs w)
    have hs' : (u : Int) < 100 := by omega
    go_enter Tryd.func38, Tryd.ntmps38
    go_wp2_with fail
    refine HS.out.mono ?_
    rintro e w1 ⟨rfl, rfl⟩
    go_wp2
    go_ret
    exact ⟨rfl, Below.refl _ _⟩
  · have hu1 : 1 ≤ u := by omega
    have hs' : ¬ (u : Int) < 100 := by omega
    have hnd20 : Lib.nDigits u ≤ 20 := by have := Lib.numDigits_eq u hu1 h; split at this <;> omega
    have hal : Tryd.prog.arrayLen 93 = 24 := by kernel_rfl
    have hsl : ∀ W, (Instr.sliceAt 93 (.pointer (some ⟨w.heap.size, 0, none⟩)) none (some (.int .i64 (Lib.nDigits u : Int))) none).run Tryd.prog W = .ok (.slice (some ⟨w.heap.size, 0, none⟩) (Lib.nDigits u) 24) W := fun W => by
      rw [run_sliceAt_array_h W 93 ⟨w.heap.size, 0, none⟩ (by kernel_rfl) .i64 (Lib.nDigits u : Int) (by omega) (by rw [hal]; omega)]
      go_simp
    have hH0 := Lib.holds_zero0 w 93 (Lib.nDigits u) (by omega)
    have hfmt := Tryd.internal_strconv_formatBase10 w.heap.size 0 24 u (Array.replicate (Lib.nDigits u) 0) (w.alloc (.cells Lib.zeros24 93)) hH0 (by rw [Array.size_replicate]; exact Lib.lt_pow_nDigits u) h (by rw [Array.size_replicate]; omega)
    rw [Array.size_replicate] at hfmt
    have HH0 := Lib.hid hH0
    have HF := Lib.hid hfmt
    have HN := Lib.hid (Tryd.internal_strconv_numDigits u hu1 h _ (Lib.tabIs_alloc ht (.cells Lib.zeros24 93)))
    clear hH0 hal hfmt
    go_enter Tryd.func38, Tryd.ntmps38
    go_wp2_with fail
    refine HN.out.mono ?_
    rintro e w1 ⟨rfl, rfl⟩
    go_wp2_with fail
    refine HF.out.mono ?_
    rintro e w' ⟨rfl, k, v', dk, rfl, hF⟩
    have hcv : (convert 63 9 (.slice (some ⟨w.heap.size, 0, none⟩) (Lib.nDigits u) 24)).run Tryd.prog ((putRow (fun (b : UInt8) => Value.int .u8 (b.toNat : Int)) (w.alloc (.cells Lib.zeros24 93)) w.heap.size 0 dk).drewN k) = .ok (.string ⟨(Lib.decDigits u).toArray⟩) ((putRow (fun (b : UInt8) => Value.int .u8 (b.toNat : Int)) (w.alloc (.cells Lib.zeros24 93)) w.heap.size 0 dk).drewN k) := by
      have h := run_convert_bytes_back (P := Tryd.prog) ((putRow (fun (b : UInt8) => Value.int .u8 (b.toNat : Int)) (w.alloc (.cells Lib.zeros24 93)) w.heap.size 0 dk).drewN k) 63 9 5 ⟨w.heap.size, 0, none⟩ 24 (Lib.decDigits u) Tryd.underlying63 Tryd.underlying5 Tryd.underlying9 (fun j hj => by
        rw [Lib.row_is_numeral hF j hj, Lib.add_plain, World.cell?_drewN]
        exact cell?_putRow (fun (b : UInt8) => Value.int .u8 (b.toNat : Int)) _ w.heap.size 0 _ dk HH0.out (by rw [hF.size, Array.size_replicate]) j (by rw [hF.size]; rw [Lib.decDigits_length] at hj; exact hj))
      rw [Lib.decDigits_length] at h
      exact h
    go_wp2
    go_ret
    obtain ⟨os, eo⟩ := Lib.fin_at w (.cells Lib.zeros24 93) dk k 0
    refine ⟨rfl, ?_⟩
    rw [eo]
    exact ⟨rfl, rfl, rfl, by simp [Go.Sort.grow], fun j hj => by simp [Go.Sort.grow, Array.getElem?_append, hj]⟩
theorem formatUint (u : Nat) (h : u < 18446744073709551616) (w : World) (ht : TabP w) :
    Calls Tryd.prog 26 #[.int .u64 u, .int .i64 10] w fun e w' => e = .returned (.string (bs (Lib.decDigits u))) ∧ Below w.heap.size w w' := by
  have H := Lib.hid (iformatUint u h w ht)
  go_enter Tryd.func26, Tryd.ntmps26
  go_wp2_with fail
  refine H.out.mono ?_
  rintro e w1 ⟨rfl, hb⟩
  go_wp2
  go_ret
  exact ⟨rfl, hb⟩
end Go.Proofs.YtpjafbinlklojaaDoor

/- The walk of layer 35's words of a value. -/
namespace Go.Proofs.YtpjafbinlklojaaDoor
open Go.RowKit

/-- A line of a new block's texts. -/
theorem line_blk {g : Nat} {w : World} {C : Array Value} {e : TypeId} {fr : Nat × Nat} (hg : w.heap[g]? = some (.cells C e fr)) (xs : List (List UInt8)) (n : Nat) (hC : C.toList = sc xs) (hn : n = xs.length) (hN : xs.length ≤ 1000000000) (hlen : (Li.line xs).length ≤ 1000000000) :
    Calls Tryd.prog 13 #[.slice (some ⟨g, 0, none⟩) n n] w fun e w' => e = .returned (.string (bs (Li.line xs))) ∧ Below w.heap.size w w' := by
  subst hn
  refine line_any g 0 xs.length xs w (fun j x hx => ?_) (Array.getElem?_eq_some_iff.1 hg).1 (Nat.le_refl _) hN hlen
  rw [Nat.zero_add, Lib.cell_of_heap hg, ← Array.getElem?_toList, hC]
  exact sc_get hx

structure Li.V where
  tag : Int
  text : List UInt8
  bits : Nat
  cls : List UInt8
  name : List UInt8
  desc : List UInt8
def Li.V.ok (v : Li.V) : Prop := I64 v.tag ∧ v.bits < 18446744073709551616 ∧ v.text.length ≤ 10000000 ∧ v.cls.length ≤ 10000000 ∧ v.name.length ≤ 10000000 ∧ v.desc.length ≤ 10000000
def Li.V.val (v : Li.V) : Value := .agg #[.int .i64 v.tag, .string (bs v.text), .int .u64 v.bits, .string (bs v.cls), .string (bs v.name), .string (bs v.desc)]
/-- Words of a value. -/
def Li.value (v : Li.V) : List UInt8 :=
  if v.tag = 1 ∨ v.tag = 7 ∨ v.tag = 8 then Li.line [Lib.itoa v.tag, Li.or v.text]
  else if v.tag = 3 ∨ v.tag = 4 ∨ v.tag = 5 ∨ v.tag = 6 then Li.line [Lib.itoa v.tag, Lib.decDigits v.bits]
  else if v.tag = 12 then Li.line [Lib.itoa v.tag, Li.or v.name, Li.or v.desc]
  else if v.tag = 9 ∨ v.tag = 10 ∨ v.tag = 11 then Li.line [Lib.itoa v.tag, Li.or v.cls, Li.or v.name, Li.or v.desc]
  else Lib.itoa v.tag
theorem line4_len (_m : Nat) (xs : List (List UInt8)) (h : ∀ x ∈ xs, x.length ≤ 30000001) (hn : xs.length ≤ 4) : (Li.line xs).length ≤ 1000000000 := by
  have := line_len 30000001 xs h
  have h2 : xs.length * (30000001 + 1) ≤ 4 * (30000001 + 1) := Nat.mul_le_mul_right _ hn
  omega

set_option maxHeartbeats 8000000 in
set_option maxRecDepth 100000 in
/-- A value with two words, the second a text. -/
theorem value_text (tag : Int) (text cls name desc : List UInt8) (bits : Nat) (w : World) (hok : Li.V.ok ⟨tag, text, bits, cls, name, desc⟩) (ht : TabP w) (hc : tag = 1 ∨ tag = 7 ∨ tag = 8) :
    Calls Tryd.prog 10 #[.agg #[.int .i64 tag, .string (bs text), .int .u64 bits, .string (bs cls), .string (bs name), .string (bs desc)]] w fun e w' => e = .returned (.string (bs (Li.line [Lib.itoa tag, Li.or text]))) ∧ Below w.heap.size w w' := by
  obtain ⟨h1, h2, h3, h4, h5, h6⟩ := hok
  dsimp only at h1 h2 h3 h4 h5 h6
  have HT := Lib.hid ht
  have HI := Lib.hid h1
  have hln := Lib.hid (line4_len 0 [Lib.itoa tag, Li.or text] (fun x hx => by
    simp at hx
    rcases hx with rfl | rfl
    · have := itoa_len h1; omega
    · have := Li.or_len text; omega) (by simp))
  clear h1 ht
  have hcs : (tag == 1) = true ∨ ((tag == 1) = false ∧ (tag == 7) = true) ∨ ((tag == 1) = false ∧ (tag == 7) = false ∧ (tag == 8) = true) := by simp; omega
  clear hc
  rcases hcs with g1 | ⟨g1, g2⟩ | ⟨g1, g2, g3⟩
  all_goals
    go_enter Tryd.func10, Tryd.ntmps10
    go_wp2_with fail
    have J0 : Below w.heap.size w (w.alloc (.cells #[.int .i64 tag, .string (bs text), .int .u64 bits, .string (bs cls), .string (bs name), .string (bs desc)] 32)) := (Below.refl _ _).alloc (Nat.le_refl _) _
    refine (itoa_any _ _ HI.out (tab_below HT.out J0)).mono ?_
    rintro e w1 ⟨rfl, hb⟩
    have J1 := Lib.hid (Below.after' J0 hb (Nat.le_refl _))
    have q1 := (hb.block _ (by simp)).trans (heap_alloc_new w _)
    obtain ⟨f1, f2⟩ := blk_facts q1
    have z1 : w.heap.size < w1.heap.size := (Array.getElem?_eq_some_iff.1 q1).1
    clear hb q1 J0
    go_wp2_with fail
    refine (or_any text _ (by omega)).mono ?_
    rintro e w2 ⟨rfl, hb⟩
    have J2 := Lib.hid (Below.alloc' (Below.after' J1.out hb (Nat.le_refl _)) (Nat.le_refl _) (.cells #[.string (bs (Lib.itoa tag)), .string (bs (Li.or text))] 9))
    clear hb f1 f2 z1
    go_wp2_with fail
    refine (line_blk (heap_alloc_new _ _) _ _ rfl rfl (by simp) hln.out).mono ?_
    rintro e w3 ⟨rfl, hb⟩
    have J3 := Lib.hid (Below.after' J2.out hb (Nat.le_refl _))
    clear hb
    go_wp2
    go_ret
    exact ⟨rfl, J3.out⟩

set_option maxHeartbeats 8000000 in
set_option maxRecDepth 100000 in
theorem value_bits (tag : Int) (text cls name desc : List UInt8) (bits : Nat) (w : World) (hok : Li.V.ok ⟨tag, text, bits, cls, name, desc⟩) (ht : TabP w) (hc : tag = 3 ∨ tag = 4 ∨ tag = 5 ∨ tag = 6) :
    Calls Tryd.prog 10 #[.agg #[.int .i64 tag, .string (bs text), .int .u64 bits, .string (bs cls), .string (bs name), .string (bs desc)]] w fun e w' => e = .returned (.string (bs (Li.line [Lib.itoa tag, Lib.decDigits bits]))) ∧ Below w.heap.size w w' := by
  obtain ⟨h1, h2, h3, h4, h5, h6⟩ := hok
  dsimp only at h1 h2 h3 h4 h5 h6
  have HT := Lib.hid ht
  have HI := Lib.hid h1
  have hln := Lib.hid (line4_len 0 [Lib.itoa tag, Lib.decDigits bits] (fun x hx => by
    simp at hx
    rcases hx with rfl | rfl
    · have := itoa_len h1; omega
    · rw [Lib.decDigits_length]; have := nDigits_le 19 bits (by omega); omega) (by simp))
  clear h1 ht
  have hcs : ((tag == 1) = false ∧ (tag == 7) = false ∧ (tag == 8) = false ∧ (tag == 3) = true) ∨ ((tag == 1) = false ∧ (tag == 7) = false ∧ (tag == 8) = false ∧ (tag == 3) = false ∧ (tag == 4) = true) ∨ ((tag == 1) = false ∧ (tag == 7) = false ∧ (tag == 8) = false ∧ (tag == 3) = false ∧ (tag == 4) = false ∧ (tag == 5) = true) ∨ ((tag == 1) = false ∧ (tag == 7) = false ∧ (tag == 8) = false ∧ (tag == 3) = false ∧ (tag == 4) = false ∧ (tag == 5) = false ∧ (tag == 6) = true) := by simp; omega
  clear hc
  rcases hcs with ⟨g0, g1, g2, g3⟩ | ⟨g0, g1, g2, g3, g4⟩ | ⟨g0, g1, g2, g3, g4, g5⟩ | ⟨g0, g1, g2, g3, g4, g5, g6⟩
  all_goals
    go_enter Tryd.func10, Tryd.ntmps10
    go_wp2_with fail
    have J0 : Below w.heap.size w (w.alloc (.cells #[.int .i64 tag, .string (bs text), .int .u64 bits, .string (bs cls), .string (bs name), .string (bs desc)] 32)) := (Below.refl _ _).alloc (Nat.le_refl _) _
    refine (itoa_any _ _ HI.out (tab_below HT.out J0)).mono ?_
    rintro e w1 ⟨rfl, hb⟩
    have J1 := Lib.hid (Below.after' J0 hb (Nat.le_refl _))
    have q1 := (hb.block _ (by simp)).trans (heap_alloc_new w _)
    obtain ⟨f1, f2⟩ := blk_facts q1
    have z1 : w.heap.size < w1.heap.size := (Array.getElem?_eq_some_iff.1 q1).1
    clear hb q1 J0
    go_wp2_with fail
    refine (formatUint bits h2 w1 (tab_below HT.out J1.out)).mono ?_
    rintro e w2 ⟨rfl, hb⟩
    have J2 := Lib.hid (Below.alloc' (Below.after' J1.out hb (Nat.le_refl _)) (Nat.le_refl _) (.cells #[.string (bs (Lib.itoa tag)), .string (bs (Lib.decDigits bits))] 9))
    clear hb f1 f2 z1
    go_wp2_with fail
    refine (line_blk (heap_alloc_new _ _) _ _ rfl rfl (by simp) hln.out).mono ?_
    rintro e w3 ⟨rfl, hb⟩
    have J3 := Lib.hid (Below.after' J2.out hb (Nat.le_refl _))
    clear hb
    go_wp2
    go_ret
    exact ⟨rfl, J3.out⟩

set_option maxHeartbeats 8000000 in
set_option maxRecDepth 100000 in
theorem value_none (tag : Int) (text cls name desc : List UInt8) (bits : Nat) (w : World) (hok : Li.V.ok ⟨tag, text, bits, cls, name, desc⟩) (ht : TabP w) (hc : ¬ (tag = 1 ∨ tag = 7 ∨ tag = 8) ∧ ¬ (tag = 3 ∨ tag = 4 ∨ tag = 5 ∨ tag = 6) ∧ tag ≠ 12 ∧ ¬ (tag = 9 ∨ tag = 10 ∨ tag = 11)) :
    Calls Tryd.prog 10 #[.agg #[.int .i64 tag, .string (bs text), .int .u64 bits, .string (bs cls), .string (bs name), .string (bs desc)]] w fun e w' => e = .returned (.string (bs (Lib.itoa tag))) ∧ Below w.heap.size w w' := by
  obtain ⟨h1, h2, h3, h4, h5, h6⟩ := hok
  dsimp only at h1 h2 h3 h4 h5 h6
  have HT := Lib.hid ht
  have HI := Lib.hid h1
  clear h1 ht
  have hcs : (tag == 1) = false ∧ (tag == 7) = false ∧ (tag == 8) = false ∧ (tag == 3) = false ∧ (tag == 4) = false ∧ (tag == 5) = false ∧ (tag == 6) = false ∧ (tag == 12) = false ∧ (tag == 9) = false ∧ (tag == 10) = false ∧ (tag == 11) = false := by simp; omega
  clear hc
  obtain ⟨g0, g1, g2, g3, g4, g5, g6, g7, g8, g9, g10⟩ := hcs
  focus
    go_enter Tryd.func10, Tryd.ntmps10
    go_wp2_with fail
    have J0 : Below w.heap.size w (w.alloc (.cells #[.int .i64 tag, .string (bs text), .int .u64 bits, .string (bs cls), .string (bs name), .string (bs desc)] 32)) := (Below.refl _ _).alloc (Nat.le_refl _) _
    refine (itoa_any _ _ HI.out (tab_below HT.out J0)).mono ?_
    rintro e w1 ⟨rfl, hb⟩
    have J1 := Lib.hid (Below.after' J0 hb (Nat.le_refl _))
    have q1 := (hb.block _ (by simp)).trans (heap_alloc_new w _)
    obtain ⟨f1, f2⟩ := blk_facts q1
    have z1 : w.heap.size < w1.heap.size := (Array.getElem?_eq_some_iff.1 q1).1
    clear hb q1 J0
    go_wp2_with fail
    go_ret
    exact ⟨rfl, J1.out⟩

set_option maxHeartbeats 8000000 in
set_option maxRecDepth 100000 in
theorem value_pair (tag : Int) (text cls name desc : List UInt8) (bits : Nat) (w : World) (hok : Li.V.ok ⟨tag, text, bits, cls, name, desc⟩) (ht : TabP w) (hc : tag = 12) :
    Calls Tryd.prog 10 #[.agg #[.int .i64 tag, .string (bs text), .int .u64 bits, .string (bs cls), .string (bs name), .string (bs desc)]] w fun e w' => e = .returned (.string (bs (Li.line [Lib.itoa tag, Li.or name, Li.or desc]))) ∧ Below w.heap.size w w' := by
  obtain ⟨h1, h2, h3, h4, h5, h6⟩ := hok
  dsimp only at h1 h2 h3 h4 h5 h6
  have HT := Lib.hid ht
  have HI := Lib.hid h1
  have hln := Lib.hid (line4_len 0 [Lib.itoa tag, Li.or name, Li.or desc] (fun x hx => by
    simp at hx
    rcases hx with rfl | rfl | rfl
    · have := itoa_len h1; omega
    · have := Li.or_len name; omega
    · have := Li.or_len desc; omega) (by simp))
  clear h1 ht
  have hcs : (tag == 1) = false ∧ (tag == 7) = false ∧ (tag == 8) = false ∧ (tag == 3) = false ∧ (tag == 4) = false ∧ (tag == 5) = false ∧ (tag == 6) = false ∧ (tag == 12) = true := by simp; omega
  clear hc
  obtain ⟨g0, g1, g2, g3, g4, g5, g6, g7⟩ := hcs
  focus
    go_enter Tryd.func10, Tryd.ntmps10
    go_wp2_with fail
    have J0 : Below w.heap.size w (w.alloc (.cells #[.int .i64 tag, .string (bs text), .int .u64 bits, .string (bs cls), .string (bs name), .string (bs desc)] 32)) := (Below.refl _ _).alloc (Nat.le_refl _) _
    refine (itoa_any _ _ HI.out (tab_below HT.out J0)).mono ?_
    rintro e w1 ⟨rfl, hb⟩
    have J1 := Lib.hid (Below.after' J0 hb (Nat.le_refl _))
    have q1 := (hb.block _ (by simp)).trans (heap_alloc_new w _)
    obtain ⟨f1, f2⟩ := blk_facts q1
    have z1 : w.heap.size < w1.heap.size := (Array.getElem?_eq_some_iff.1 q1).1
    clear hb q1 J0
    go_wp2_with fail
    have z1d : w.heap.size < w1.drew.heap.size := z1
    refine wp_region_ord 10 (by kernel_rfl) (by kernel_rfl) (fun _ _ d _ _ h => by cases d <;> exact h) ?_
    simp only [List.take_succ_cons, List.take_zero, List.drop_succ_cons, List.drop_zero]
    repeat (first | (refine wpLex_skip rfl ?_; simp only [Act.put, List.setIfInBounds_toArray, List.set_cons_zero, List.set_cons_succ]) | (refine wpLex_fix rfl ?_; intro F hF R hR hne K hK; go_big_quiet_op; first | (go_big_quiet_on; clear hne hR R hF F) | (apply Exists.intro; refine ⟨fun g => ?_, ?_⟩; (((first | (rw [GrE.cell g _ _ z1d]; go_simp; first | exact ⟨rfl, rfl⟩ | rfl) | (go_at_call 14; exact GrE.call hR (or_any _ _ (by omega))) | (go_at_call 13; exact GrE.call hR (line_blk (GrE.blk g (hF.out _ _ _ (by decide) (.inr ⟨rfl, rfl, rfl⟩))) [Lib.itoa tag, Li.or name, Li.or desc] _ rfl rfl (by simp) hln.out))))); go_big_quiet_on; clear hne hR R hF F)) | (apply wpLex_blk rfl; (focus (intro x hx; go_simp; exact ⟨rfl, rfl⟩)); intro B hB; simp only [Act.put, blkVal, List.setIfInBounds_toArray, List.set_cons_zero, List.set_cons_succ]))
    refine wpLex_nil ?_
    intro w1 hw1
    have J2 := Lib.hid (Below.after' (Below.drew J1.out) hw1.below (Nat.le_refl _))
    clear hw1
    go_wp2
    go_ret
    exact ⟨rfl, J2.out⟩
end Go.Proofs.YtpjafbinlklojaaDoor

/- The walk of layer 35's words of a value, the last kind. -/
namespace Go.Proofs.YtpjafbinlklojaaDoor
open Go.RowKit

set_option maxHeartbeats 8000000 in
set_option maxRecDepth 100000 in
theorem value_three (tag : Int) (text cls name desc : List UInt8) (bits : Nat) (w : World) (hok : Li.V.ok ⟨tag, text, bits, cls, name, desc⟩) (ht : TabP w) (hc : tag = 9 ∨ tag = 10 ∨ tag = 11) :
    Calls Tryd.prog 10 #[.agg #[.int .i64 tag, .string (bs text), .int .u64 bits, .string (bs cls), .string (bs name), .string (bs desc)]] w fun e w' => e = .returned (.string (bs (Li.line [Lib.itoa tag, Li.or cls, Li.or name, Li.or desc]))) ∧ Below w.heap.size w w' := by
  obtain ⟨h1, h2, h3, h4, h5, h6⟩ := hok
  dsimp only at h1 h2 h3 h4 h5 h6
  have HT := Lib.hid ht
  have HI := Lib.hid h1
  have hln := Lib.hid (line4_len 0 [Lib.itoa tag, Li.or cls, Li.or name, Li.or desc] (fun x hx => by
    simp at hx
    rcases hx with rfl | rfl | rfl | rfl
    · have := itoa_len h1; omega
    · have := Li.or_len cls; omega
    · have := Li.or_len name; omega
    · have := Li.or_len desc; omega) (by simp))
  clear h1 ht
  have hcs : ((tag == 1) = false ∧ (tag == 7) = false ∧ (tag == 8) = false ∧ (tag == 3) = false ∧ (tag == 4) = false ∧ (tag == 5) = false ∧ (tag == 6) = false ∧ (tag == 12) = false ∧ (tag == 9) = true) ∨ ((tag == 1) = false ∧ (tag == 7) = false ∧ (tag == 8) = false ∧ (tag == 3) = false ∧ (tag == 4) = false ∧ (tag == 5) = false ∧ (tag == 6) = false ∧ (tag == 12) = false ∧ (tag == 9) = false ∧ (tag == 10) = true) ∨ ((tag == 1) = false ∧ (tag == 7) = false ∧ (tag == 8) = false ∧ (tag == 3) = false ∧ (tag == 4) = false ∧ (tag == 5) = false ∧ (tag == 6) = false ∧ (tag == 12) = false ∧ (tag == 9) = false ∧ (tag == 10) = false ∧ (tag == 11) = true) := by simp; omega
  clear hc
  rcases hcs with ⟨g0, g1, g2, g3, g4, g5, g6, g7, g8⟩ | ⟨g0, g1, g2, g3, g4, g5, g6, g7, g8, g9⟩ | ⟨g0, g1, g2, g3, g4, g5, g6, g7, g8, g9, g10⟩
  all_goals
    go_enter Tryd.func10, Tryd.ntmps10
    go_wp2_with fail
    have J0 : Below w.heap.size w (w.alloc (.cells #[.int .i64 tag, .string (bs text), .int .u64 bits, .string (bs cls), .string (bs name), .string (bs desc)] 32)) := (Below.refl _ _).alloc (Nat.le_refl _) _
    refine (itoa_any _ _ HI.out (tab_below HT.out J0)).mono ?_
    rintro e w1 ⟨rfl, hb⟩
    have J1 := Lib.hid (Below.after' J0 hb (Nat.le_refl _))
    have q1 := (hb.block _ (by simp)).trans (heap_alloc_new w _)
    obtain ⟨f1, f2⟩ := blk_facts q1
    have z1 : w.heap.size < w1.heap.size := (Array.getElem?_eq_some_iff.1 q1).1
    clear hb q1 J0
    go_wp2_with fail
    have z1d : w.heap.size < w1.drew.heap.size := z1
    refine wp_region_ord 13 (by kernel_rfl) (by kernel_rfl) (fun _ _ d _ _ h => by cases d <;> exact h) ?_
    simp only [List.take_succ_cons, List.take_zero, List.drop_succ_cons, List.drop_zero]
    repeat (first | (refine wpLex_skip rfl ?_; simp only [Act.put, List.setIfInBounds_toArray, List.set_cons_zero, List.set_cons_succ]) | (refine wpLex_fix rfl ?_; intro F hF R hR hne K hK; go_big_quiet_op; first | (go_big_quiet_on; clear hne hR R hF F) | (apply Exists.intro; refine ⟨fun g => ?_, ?_⟩; (((first | (rw [GrE.cell g _ _ z1d]; go_simp; first | exact ⟨rfl, rfl⟩ | rfl) | (go_at_call 14; exact GrE.call hR (or_any _ _ (by omega))) | (go_at_call 13; exact GrE.call hR (line_blk (GrE.blk g (hF.out _ _ _ (by decide) (.inr ⟨rfl, rfl, rfl⟩))) [Lib.itoa tag, Li.or cls, Li.or name, Li.or desc] _ rfl rfl (by simp) hln.out))))); go_big_quiet_on; clear hne hR R hF F)) | (apply wpLex_blk rfl; (focus (intro x hx; go_simp; exact ⟨rfl, rfl⟩)); intro B hB; simp only [Act.put, blkVal, List.setIfInBounds_toArray, List.set_cons_zero, List.set_cons_succ]))
    refine wpLex_nil ?_
    intro w1 hw1
    have J2 := Lib.hid (Below.after' (Below.drew J1.out) hw1.below (Nat.le_refl _))
    clear hw1
    go_wp2
    go_ret
    exact ⟨rfl, J2.out⟩

theorem value_any (v : Li.V) (w : World) (hok : v.ok) (ht : TabP w) : Calls Tryd.prog 10 #[v.val] w fun e w' => e = .returned (.string (bs (Li.value v))) ∧ Below w.heap.size w w' := by
  obtain ⟨tag, text, bits, cls, name, desc⟩ := v
  unfold Li.value Li.V.val
  dsimp only
  by_cases h1 : tag = 1 ∨ tag = 7 ∨ tag = 8
  · rw [if_pos h1]; exact value_text tag text cls name desc bits w hok ht h1
  · rw [if_neg h1]
    by_cases h2 : tag = 3 ∨ tag = 4 ∨ tag = 5 ∨ tag = 6
    · rw [if_pos h2]; exact value_bits tag text cls name desc bits w hok ht h2
    · rw [if_neg h2]
      by_cases h3 : tag = 12
      · rw [if_pos h3]; exact value_pair tag text cls name desc bits w hok ht h3
      · rw [if_neg h3]
        by_cases h4 : tag = 9 ∨ tag = 10 ∨ tag = 11
        · rw [if_pos h4]; exact value_three tag text cls name desc bits w hok ht h4
        · rw [if_neg h4]; exact value_none tag text cls name desc bits w hok ht ⟨h1, h2, h3, h4⟩
end Go.Proofs.YtpjafbinlklojaaDoor

/- Layer 35, plain: a class's lines, as the program and as the document make them. No program. Printed by mk_lines.py. -/
namespace Go.Proofs.YtpjafbinlklojaaDoor
def Pv.li (v : Pv) : Li.V := ⟨v.tag, v.text, v.bits, v.cls, v.name, v.desc⟩
/-- Is a bit there? -/
def hasB (h bit : Int) : Bool := bits .and .i64 h bit != 0
/-! ### The program's -/
def Li.besideL (a : Atr) : List (List UInt8) := [[98, 101, 115, 105, 100, 101], Lib.itoa a.has] ++ (if hasB a.has 2 then [[118, 97, 108, 117, 101], Li.value a.value.li] else []) ++ (if hasB a.has 8 then [116, 104, 114, 111, 119, 115] :: a.throws.map Li.or else []) ++
  (if hasB a.has 32 then [[115, 105, 103, 110, 97, 116, 117, 114, 101], Li.or a.signature] else []) ++ (if hasB a.has 64 then [[115, 111, 117, 114, 99, 101], Li.or a.source] else [])
def Li.beside (a : Atr) : List UInt8 := Li.line (Li.besideL a)
def Li.insL (at_ : Int) (i : Cins) : List (List UInt8) := [Li.ints [at_, i.op, i.var, i.num, i.to], Li.value i.const.li] ++ (i.keys.zip i.targets).map fun k => Lib.itoa k.1 ++ 58 :: Lib.itoa k.2
def Li.ins (at_ : Int) (i : Cins) : List UInt8 := Li.line (Li.insL at_ i)
def Li.opsFrom : Nat → List Cins → List (List UInt8)
  | _, [] => []
  | k, i :: is => Li.ins k i :: Li.opsFrom (k + 1) is
def Li.hnd (h : Hnd) : List UInt8 := Li.line [[104, 97, 110, 100, 108, 101, 114], Li.ints [h.from_, h.till, h.to], Li.or h.kind]
def Li.lno (l : Lno) : List UInt8 := Li.line [[108, 105, 110, 101], Li.ints [l.at_, l.line]]
def Li.slt (s : Slt) : List UInt8 := Li.line [[115, 108, 111, 116], Li.ints [s.from_, s.till, s.var], Li.or s.name, Li.or s.desc]
def Li.code (c : Cde) : List (List UInt8) := Li.line [[99, 111, 100, 101], Li.ints [c.stack, c.locals]] :: (Li.opsFrom 0 c.ops ++ c.handlers.map Li.hnd ++ c.lines.map Li.lno ++ c.slots.map Li.slt)
def Li.member (kind : List UInt8) (m : Mbr) : List UInt8 := Li.line [kind, Lib.itoa m.flags, Li.or m.name, Li.or m.desc, Li.beside m.attrs]
def Li.inr (i : Inr) : List UInt8 := Li.line [[105, 110, 110, 101, 114], Li.or i.cls, Li.or i.outer, Li.or i.name, Lib.itoa i.flags]
def Li.method (m : Mbr) : List (List UInt8) := Li.member [109, 101, 116, 104, 111, 100] m :: (if hasB m.attrs.has 1 then Li.code m.attrs.code else [])
def Li.cls (c : Cls) : List (List UInt8) := Li.line [[99, 108, 97, 115, 115], Li.or c.this, [115, 117, 112, 101, 114], Li.or c.super, [118, 101, 114, 115, 105, 111, 110], Li.ints [c.major, c.minor], [102, 108, 97, 103, 115], Lib.itoa c.flags, Li.beside c.attrs] ::
  (c.faces.map (fun s => Li.line [[102, 97, 99, 101], Li.or s]) ++ c.attrs.inners.map Li.inr ++ c.fields.map (Li.member [102, 105, 101, 108, 100]) ++ c.methods.flatMap Li.method)
/-! ### The document's -/
def Ri.or (s : List UInt8) : List UInt8 := 32 :: Li.or s
def Ri.num (ns : List Int) : List UInt8 := ns.flatMap fun n => 32 :: Lib.itoa n
def Ri.beside (a : Atr) : List UInt8 := 32 :: [98, 101, 115, 105, 100, 101] ++ Ri.num [a.has] ++ (if hasB a.has 2 then 32 :: [118, 97, 108, 117, 101] ++ 32 :: Li.value a.value.li else []) ++ (if hasB a.has 8 then 32 :: [116, 104, 114, 111, 119, 115] ++ a.throws.flatMap Ri.or else []) ++
  (if hasB a.has 32 then 32 :: [115, 105, 103, 110, 97, 116, 117, 114, 101] ++ Ri.or a.signature else []) ++ (if hasB a.has 64 then 32 :: [115, 111, 117, 114, 99, 101] ++ Ri.or a.source else [])
def Ri.ins (at_ : Int) (i : Cins) : List UInt8 := Lib.itoa at_ ++ Ri.num [i.op, i.var, i.num, i.to] ++ 32 :: Li.value i.const.li ++ (i.keys.zip i.targets).flatMap fun k => Ri.num [k.1] ++ 58 :: Lib.itoa k.2
theorem line_cons (x : List UInt8) (xs : List (List UInt8)) : Li.line (x :: xs) = x ++ xs.flatMap fun y => 32 :: y := by
  unfold Li.line
  rw [Lib.join_cons]
  unfold Lib.joinTail
  rw [List.flatMap_def]
  rfl
theorem ints_cons (n : Int) (ns : List Int) : Li.ints (n :: ns) = Lib.itoa n ++ Ri.num ns := by
  unfold Li.ints Ri.num
  rw [List.map_cons, line_cons, List.flatMap_map]
theorem besides (a : Atr) : Ri.beside a = 32 :: Li.beside a := by
  unfold Ri.beside Li.beside Li.besideL
  simp only [List.append_assoc, List.cons_append, List.nil_append]
  rw [line_cons]
  simp only [List.flatMap_cons, List.flatMap_append, List.cons_append, List.nil_append]
  have e : ∀ l : List (List UInt8), (l.map Li.or).flatMap (fun y => 32 :: y) = l.flatMap Ri.or := fun l => by rw [List.flatMap_map]; rfl
  cases hasB a.has 2 <;> cases hasB a.has 8 <;> cases hasB a.has 32 <;> cases hasB a.has 64 <;> simp [Ri.num, Ri.or, e]
theorem inss (at_ : Int) (i : Cins) : Ri.ins at_ i = Li.ins at_ i := by
  unfold Ri.ins Li.ins Li.insL
  rw [List.cons_append, line_cons, ints_cons]
  have e : ((i.keys.zip i.targets).map fun k => Lib.itoa k.1 ++ 58 :: Lib.itoa k.2).flatMap (fun y => 32 :: y) = (i.keys.zip i.targets).flatMap fun k => Ri.num [k.1] ++ 58 :: Lib.itoa k.2 := by
    rw [List.flatMap_map]
    simp [Ri.num]
  rw [← e]
  simp [List.flatMap_cons]
def Ri.hnd (h : Hnd) : List UInt8 := [104, 97, 110, 100, 108, 101, 114] ++ Ri.num [h.from_, h.till, h.to] ++ Ri.or h.kind
def Ri.lno (l : Lno) : List UInt8 := [108, 105, 110, 101] ++ Ri.num [l.at_, l.line]
def Ri.slt (s : Slt) : List UInt8 := [115, 108, 111, 116] ++ Ri.num [s.from_, s.till, s.var] ++ Ri.or s.name ++ Ri.or s.desc
def Ri.inr (i : Inr) : List UInt8 := [105, 110, 110, 101, 114] ++ Ri.or i.cls ++ Ri.or i.outer ++ Ri.or i.name ++ Ri.num [i.flags]
def Ri.member (kind : List UInt8) (m : Mbr) : List UInt8 := kind ++ Ri.num [m.flags] ++ Ri.or m.name ++ Ri.or m.desc ++ Ri.beside m.attrs
def Ri.head (c : Cls) : List UInt8 := [99, 108, 97, 115, 115] ++ Ri.or c.this ++ 32 :: [115, 117, 112, 101, 114] ++ Ri.or c.super ++ 32 :: [118, 101, 114, 115, 105, 111, 110] ++ Ri.num [c.major, c.minor] ++ 32 :: [102, 108, 97, 103, 115] ++ Ri.num [c.flags] ++ Ri.beside c.attrs
theorem hnds (h : Hnd) : Ri.hnd h = Li.hnd h := by simp [Ri.hnd, Li.hnd, line_cons, ints_cons, Ri.num, Ri.or]
theorem lnos (l : Lno) : Ri.lno l = Li.lno l := by simp [Ri.lno, Li.lno, line_cons, ints_cons, Ri.num]
theorem slts (s : Slt) : Ri.slt s = Li.slt s := by simp [Ri.slt, Li.slt, line_cons, ints_cons, Ri.num, Ri.or]
theorem inrs (i : Inr) : Ri.inr i = Li.inr i := by simp [Ri.inr, Li.inr, line_cons, Ri.num, Ri.or]
theorem members (kind : List UInt8) (m : Mbr) : Ri.member kind m = Li.member kind m := by simp [Ri.member, Li.member, line_cons, Ri.num, Ri.or, besides]
theorem heads (c : Cls) : Ri.head c = Li.line [[99, 108, 97, 115, 115], Li.or c.this, [115, 117, 112, 101, 114], Li.or c.super, [118, 101, 114, 115, 105, 111, 110], Li.ints [c.major, c.minor], [102, 108, 97, 103, 115], Lib.itoa c.flags, Li.beside c.attrs] := by
  simp [Ri.head, line_cons, ints_cons, Ri.num, Ri.or, besides]
theorem codes (c : Cde) : [99, 111, 100, 101] ++ Ri.num [c.stack, c.locals] = Li.line [[99, 111, 100, 101], Li.ints [c.stack, c.locals]] := by simp [line_cons, ints_cons, Ri.num]
/-! ### How long lines are -/
theorem sum_len_le {α : Type} (f : α → List UInt8) (g : α → Nat) : ∀ l : List α, (∀ x ∈ l, (f x).length ≤ g x) → (l.flatMap f).length ≤ (l.map g).sum
  | [], _ => Nat.le_refl _
  | x :: l, h => by
    rw [List.flatMap_cons, List.length_append, List.map_cons, List.sum_cons]
    have h1 := h x (List.mem_cons_self ..)
    have h2 := sum_len_le f g l (fun y hy => h y (List.mem_cons_of_mem _ hy))
    omega
end Go.Proofs.YtpjafbinlklojaaDoor

/- Layer 35 in plain words: unlike texts are shown unlike, by plain signs. -/
namespace Go.Proofs.YtpjafbinlklojaaDoor
open Go.RowKit

theorem hexd_inj : ∀ m n : Fin 16, Li.hexd m.val = Li.hexd n.val → m = n := by decide
theorem hexd_plain : ∀ n : Fin 16, 33 ≤ (Li.hexd n.val).toNat ∧ (Li.hexd n.val).toNat ≤ 126 := by decide
theorem odd_iff (c : UInt8) : Li.odd c = true ↔ (c.toNat < 33 ∨ 126 < c.toNat ∨ c.toNat = 37) := by simp [Li.odd, or_assoc]
theorem show1_plain (c : UInt8) : ∀ b ∈ Li.show1 c, 33 ≤ b.toNat ∧ b.toNat ≤ 126 := by
  intro b hb
  have hc := c.toNat_lt
  unfold Li.show1 at hb
  split at hb
  · simp at hb
    rcases hb with rfl | rfl | rfl
    · decide
    · exact hexd_plain ⟨c.toNat / 16, by omega⟩
    · exact hexd_plain ⟨c.toNat % 16, by omega⟩
  · rename_i ho
    rw [odd_iff] at ho
    simp at hb
    subst hb
    omega
theorem text_plain (l : List UInt8) : ∀ b ∈ Li.text l, 33 ≤ b.toNat ∧ b.toNat ≤ 126 := by
  intro b hb
  obtain ⟨c, _, h⟩ := List.mem_flatMap.1 hb
  exact show1_plain c b h
theorem show1_inj {c d : UInt8} {x y : List UInt8} (h : Li.show1 c ++ x = Li.show1 d ++ y) : c = d ∧ x = y := by
  have hc := c.toNat_lt
  have hd := d.toNat_lt
  unfold Li.show1 at h
  by_cases h1 : Li.odd c = true <;> by_cases h2 : Li.odd d = true
  · rw [if_pos h1, if_pos h2] at h
    simp at h
    obtain ⟨e1, e2, e3⟩ := h
    have k1 := hexd_inj ⟨c.toNat / 16, by omega⟩ ⟨d.toNat / 16, by omega⟩ e1
    have k2 := hexd_inj ⟨c.toNat % 16, by omega⟩ ⟨d.toNat % 16, by omega⟩ e2
    simp at k1 k2
    exact ⟨UInt8.toNat_inj.1 (by omega), e3⟩
  · rw [if_pos h1, if_neg h2] at h
    simp at h
    exact absurd ((odd_iff d).2 (by rw [← h.1]; decide)) h2
  · rw [if_neg h1, if_pos h2] at h
    simp at h
    exact absurd ((odd_iff c).2 (by rw [h.1]; decide)) h1
  · rw [if_neg h1, if_neg h2] at h
    simpa using h
theorem text_inj : ∀ {a b : List UInt8}, Li.text a = Li.text b → a = b
  | [], [], _ => rfl
  | [], d :: b, h => by
    exfalso
    have : (Li.text (d :: b)).length ≠ 0 := by simp only [Li.text, List.flatMap_cons, List.length_append]; unfold Li.show1; split <;> simp
    rw [← h] at this
    exact this rfl
  | c :: a, [], h => by
    exfalso
    have : (Li.text (c :: a)).length ≠ 0 := by simp only [Li.text, List.flatMap_cons, List.length_append]; unfold Li.show1; split <;> simp
    rw [h] at this
    exact this rfl
  | c :: a, d :: b, h => by
    simp only [Li.text, List.flatMap_cons] at h
    obtain ⟨rfl, h2⟩ := show1_inj h
    rw [text_inj (a := a) (b := b) h2]
end Go.Proofs.YtpjafbinlklojaaDoor

/- Layer 35: the law ListingApart, of a contract of fixed. -/
namespace Go.Proofs.YtpjafbinlklojaaDoor
open Go.RowKit

theorem index_bs (l : List UInt8) (i : Nat) (c : UInt8) (h : l[i]? = some c) (x : World) : (Instr.index 9 (.string (bs l)) (.int .i64 (i : Int))).run Tryd.prog x = .ok (.int .u8 (c.toNat : Int)) x := by
  obtain ⟨h1, rfl⟩ := List.getElem?_eq_some_iff.1 h
  have hz := bs_size l
  rw [run_index_string x _ _ _ _ (by kernel_rfl), dif_pos (by omega : 0 ≤ (i : Int) ∧ (i : Int) < (bs l).size)]
  rfl

end Go.Proofs.YtpjafbinlklojaaDoor

/- Layer 35: an instruction without keys. -/
namespace Go.Proofs.YtpjafbinlklojaaDoor
open Go.RowKit

/-- Words of a new block's numbers. -/
theorem ints_blk {g : Nat} {w : World} {C : Array Value} {e : TypeId} {fr : Nat × Nat} (hg : w.heap[g]? = some (.cells C e fr)) (ns : List Int) (n : Nat) (hC : C.toList = ic ns) (hn : n = ns.length) (hI : ∀ x ∈ ns, I64 x) (hN : ns.length ≤ 1000000) (ht : TabP w) :
    Calls Tryd.prog 15 #[.slice (some ⟨g, 0, none⟩) n n] w fun e w' => e = .returned (.string (bs (Li.ints ns))) ∧ Below w.heap.size w w' := by
  subst hn
  refine ints_any ns g 0 ns.length w (fun j x hx => ?_) (Array.getElem?_eq_some_iff.1 hg).1 (Nat.le_refl _) hI hN ht
  rw [Nat.zero_add, Lib.cell_of_heap hg, ← Array.getElem?_toList, hC]
  simp [ic, hx]
theorem value_len (v : Li.V) (h : v.ok) : (Li.value v).length ≤ 300000000 := by
  obtain ⟨h1, h2, h3, h4, h5, h6⟩ := h
  have i0 := itoa_len h1
  have d0 : (Lib.decDigits v.bits).length ≤ 30000001 := by rw [Lib.decDigits_length]; have := nDigits_le 19 v.bits (by omega); omega
  have o1 := Li.or_len v.text
  have o2 := Li.or_len v.cls
  have o3 := Li.or_len v.name
  have o4 := Li.or_len v.desc
  have L := fun (xs : List (List UInt8)) (hx : ∀ x ∈ xs, x.length ≤ 30000001) (hn : xs.length ≤ 4) => Nat.le_trans (line_len 30000001 xs hx) (Nat.mul_le_mul_right (30000001 + 1) hn)
  unfold Li.value
  split
  · refine Nat.le_trans (L _ ?_ (by simp)) (by decide); simp; omega
  · split
    · refine Nat.le_trans (L _ ?_ (by simp)) (by decide); simp; omega
    · split
      · refine Nat.le_trans (L _ ?_ (by simp)) (by decide); simp; omega
      · split
        · refine Nat.le_trans (L _ ?_ (by simp)) (by decide); simp; omega
        · omega

set_option maxHeartbeats 8000000 in
set_option maxRecDepth 100000 in
theorem ins_177 (w : World) (ht : TabP w) :
    Calls Tryd.prog 11 #[.int .i64 0, .agg #[.int .i64 177, .int .i64 0, .int .i64 0, .int .i64 0, .string ⟨#[]⟩, .int .u64 0, .string ⟨#[]⟩, .string ⟨#[]⟩, .string ⟨#[]⟩, .int .i64 0, .slice none 0 0, .slice none 0 0]] w fun e w' => e = .returned (.string (bs (Li.line [Li.ints [0, 177, 0, 0, 0], Li.value ⟨0, [], 0, [], [], []⟩]))) ∧ Below w.heap.size w w' := by
  have HT := Lib.hid ht
  have hln := Lib.hid (show (Li.line [Li.ints [0, 177, 0, 0, 0], Li.value ⟨0, [], 0, [], [], []⟩]).length ≤ 1000000000 by decide +kernel)
  have hI : Hid (∀ x ∈ ([0, 177, 0, 0, 0] : List Int), I64 x) := by simp [Hid, I64]
  have hok : Hid (Li.V.ok ⟨0, [], 0, [], [], []⟩) := ⟨by simp [I64], by simp, by simp, by simp, by simp, by simp⟩
  go_enter Tryd.func11, Tryd.ntmps11
  go_wp2_with fail
  obtain ⟨w0, hw0⟩ : ∃ w0 : World, w0 = w.alloc (.cells #[.int .i64 177, .int .i64 0, .int .i64 0, .int .i64 0, .string ⟨#[]⟩, .int .u64 0, .string ⟨#[]⟩, .string ⟨#[]⟩, .string ⟨#[]⟩, .int .i64 0, .slice none 0 0, .slice none 0 0] 47) := ⟨_, rfl⟩
  have J0 : Below w.heap.size w w0 := by rw [hw0]; exact (Below.refl _ _).alloc (Nat.le_refl _) _
  have q1 : w0.heap[w.heap.size]? = some (.cells #[.int .i64 177, .int .i64 0, .int .i64 0, .int .i64 0, .string ⟨#[]⟩, .int .u64 0, .string ⟨#[]⟩, .string ⟨#[]⟩, .string ⟨#[]⟩, .int .i64 0, .slice none 0 0, .slice none 0 0] 47 (0, 0)) := by rw [hw0]; exact heap_alloc_new w _
  rw [← hw0]
  obtain ⟨f1, f2⟩ := blk_facts q1
  have z1 : w.heap.size < w0.heap.size := (Array.getElem?_eq_some_iff.1 q1).1
  have z1d : w.heap.size < w0.drew.heap.size := z1
  have HT1 := Lib.hid (tab_below HT.out J0.drew)
  clear hw0
  refine wp_region_ord 16 (by kernel_rfl) (by kernel_rfl) (fun _ _ d _ _ h => by cases d <;> exact h) ?_
  simp only [List.take_succ_cons, List.take_zero, List.drop_succ_cons, List.drop_zero]
  repeat (first | (refine wpLex_skip rfl ?_; simp only [Act.put, List.setIfInBounds_toArray, List.set_cons_zero, List.set_cons_succ]) | (refine wpLex_fix rfl ?_; intro F hF R hR hne K hK; go_big_quiet_op; first | (go_big_quiet_on; clear hne hR R hF F) | (apply Exists.intro; refine ⟨fun g => ?_, ?_⟩; (((first | (rw [GrE.cell g _ _ z1d]; go_simp; first | exact ⟨rfl, rfl⟩ | rfl) | (go_simp; (repeat (simp only [GrE.cell g _ _ z1d]; go_simp)); first | exact ⟨rfl, rfl⟩ | rfl) | (go_at_call 15; exact GrE.call hR (ints_blk (GrE.blk g (hF.out _ _ _ (by decide) (.inr ⟨rfl, rfl, rfl⟩))) [0, 177, 0, 0, 0] _ rfl rfl hI.out (by simp) (tab_below HT1.out (GrE.below g)))) | (go_at_call 10; exact GrE.call hR (value_any ⟨0, [], 0, [], [], []⟩ _ hok.out (tab_below HT1.out (GrE.below g))))))); go_big_quiet_on; clear hne hR R hF F)) | (apply wpLex_blk rfl; (focus (intro x hx; go_simp; exact ⟨rfl, rfl⟩)); intro B hB; simp only [Act.put, blkVal, List.setIfInBounds_toArray, List.set_cons_zero, List.set_cons_succ]))
  refine wpLex_nil ?_
  intro w1 hw1
  have F1 := hw1.fact 21 _ _ (.inr ⟨rfl, rfl, rfl⟩)
  have c1 := (hw1.below.block _ z1d).trans q1
  obtain ⟨f3, f4⟩ := blk_facts c1
  have J2 := Lib.hid (Below.after' (Below.drew J0) hw1.below (Nat.le_refl _))
  have L1 := Lib.hid F1.2
  clear hw1 F1 q1 c1 f1 f2
  go_wp2_with fail
  refine wp_loop_rounds 1 ?_
  rw [rounds_succ]
  go_wp2_with fail
  refine (line_blk L1.out [Li.ints [0, 177, 0, 0, 0], Li.value ⟨0, [], 0, [], [], []⟩] _ rfl rfl (by simp) hln.out).mono ?_
  rintro e w3 ⟨rfl, hb⟩
  have J3 := Lib.hid (Below.after' J2.out hb (Nat.le_refl _))
  clear hb
  go_wp2
  go_ret
  exact ⟨rfl, J3.out⟩
end Go.Proofs.YtpjafbinlklojaaDoor

/- Layer 35, plain: how long a class's lines are. No program. -/
namespace Go.Proofs.YtpjafbinlklojaaDoor

theorem line_sum : ∀ xs : List (List UInt8), (Li.line xs).length ≤ (xs.map fun x => x.length + 1).sum
  | [] => by simp [Li.line, Lib.join]
  | x :: xs => by
    have h := sum_len_le (fun y => 32 :: y) (fun y => y.length + 1) xs (fun y _ => by simp)
    rw [line_cons, List.length_append, List.map_cons, List.sum_cons]
    omega
theorem ints_len2 {ns : List Int} (h : ∀ x ∈ ns, I64 x) : (Li.ints ns).length ≤ ns.length * 21 := ints_len h
theorem value_len2 (v : Pv) (h : v.fits) : (Li.value v.li).length ≤ 3 * v.blk + 60 := by
  obtain ⟨h1, h2, _⟩ := h
  have i0 := itoa_len h1
  have d0 : (Lib.decDigits v.bits).length ≤ 20 := by rw [Lib.decDigits_length]; have := nDigits_le 19 v.bits (by omega); omega
  have o1 := Li.or_len v.text
  have o2 := Li.or_len v.cls
  have o3 := Li.or_len v.name
  have o4 := Li.or_len v.desc
  have L := line_sum
  unfold Li.value Pv.li Pv.blk
  dsimp only
  split
  · refine Nat.le_trans (L _) ?_
    simp only [List.map_cons, List.map_nil, List.sum_cons, List.sum_nil]
    omega
  · split
    · refine Nat.le_trans (L _) ?_
      simp only [List.map_cons, List.map_nil, List.sum_cons, List.sum_nil]
      omega
    · split
      · refine Nat.le_trans (L _) ?_
        simp only [List.map_cons, List.map_nil, List.sum_cons, List.sum_nil]
        omega
      · split
        · refine Nat.le_trans (L _) ?_
          simp only [List.map_cons, List.map_nil, List.sum_cons, List.sum_nil]
          omega
        · omega
theorem ors_sum : ∀ ss : List (List UInt8), ((ss.map Li.or).map fun x => x.length + 1).sum ≤ 3 * (ss.map fun s => s.length + 1).sum
  | [] => Nat.le_refl _
  | s :: ss => by
    have h1 := ors_sum ss
    have h2 := Li.or_len s
    simp only [List.map_cons, List.sum_cons]
    omega
theorem beside_len (a : Atr) (h : a.good) : (Li.beside a).length ≤ 3 * a.blk + 200 := by
  have i0 := itoa_len h.1
  have v0 := value_len2 a.value h.2.2.1
  have t0 := ors_sum a.throws
  have o1 := Li.or_len a.signature
  have o2 := Li.or_len a.source
  refine Nat.le_trans (line_sum _) ?_
  unfold Li.besideL Atr.blk
  cases hasB a.has 2 <;> cases hasB a.has 8 <;> cases hasB a.has 32 <;> cases hasB a.has 64 <;>
    (simp only [List.map_cons, List.map_nil, List.sum_cons, List.sum_nil, List.map_append, List.sum_append, if_true, Bool.false_eq_true, if_false, List.length_cons, List.length_nil]; omega)
theorem len_mem_sum {s : List UInt8} : ∀ {ss : List (List UInt8)}, s ∈ ss → s.length < (ss.map fun s => s.length + 1).sum
  | a :: ss, h => by
    simp only [List.map_cons, List.sum_cons]
    rcases List.mem_cons.1 h with rfl | h
    · omega
    · have := len_mem_sum h
      omega
theorem len_sum : ∀ (ss : List (List UInt8)), ss.length ≤ (ss.map fun s => s.length + 1).sum
  | [] => Nat.le_refl _
  | a :: ss => by
    have := len_sum ss
    simp only [List.map_cons, List.sum_cons, List.length_cons]
    omega
theorem mem_sum {α : Type} (f : α → Nat) {x : α} : ∀ {xs : List α}, x ∈ xs → f x ≤ (xs.map f).sum
  | a :: xs, h => by
    simp only [List.map_cons, List.sum_cons]
    rcases List.mem_cons.1 h with rfl | h
    · omega
    · have := mem_sum f h
      omega
theorem val_ok {v : Pv} (h : v.fits) (hb : v.blk ≤ 2000000) : v.li.ok := by
  obtain ⟨h1, h2, _⟩ := h
  unfold Pv.blk at hb
  exact ⟨h1, h2, by dsimp only [Pv.li]; omega, by dsimp only [Pv.li]; omega, by dsimp only [Pv.li]; omega, by dsimp only [Pv.li]; omega⟩
/-- What a class of so much asks of its parts. -/
theorem atr_ok {a : Atr} (h : a.good) (hb : a.blk ≤ 2000000) : a.value.li.ok ∧ (∀ s ∈ a.throws, s.length ≤ 100000000) ∧ a.signature.length ≤ 100000000 ∧ a.source.length ≤ 100000000 ∧ a.throws.length ≤ 2000000 ∧ (Li.line (Li.besideL a)).length ≤ 1000000000 ∧ (Li.besideL a).length ≤ 2000100 := by
  have hl := beside_len a h
  have hv := h.2.2.1
  unfold Atr.blk at hb hl
  have ht := len_sum a.throws
  refine ⟨val_ok hv (by omega), fun s hs => by have := len_mem_sum hs; omega, by omega, by omega, by omega, ?_, ?_⟩
  · unfold Li.beside at hl
    omega
  · unfold Li.besideL
    cases hasB a.has 2 <;> cases hasB a.has 8 <;> cases hasB a.has 32 <;> cases hasB a.has 64 <;>
      (simp only [List.length_append, List.length_cons, List.length_nil, List.length_map, if_true, Bool.false_eq_true, if_false]; omega)
end Go.Proofs.YtpjafbinlklojaaDoor

/- The walks of the document's layer 35: numbers. -/
namespace Go.Proofs.YtpjafbinlklojaaDoor
open Go.RowKit Go.Deep

/-- 'string([]byte{c})' of a fresh block. -/
theorem one_sign (w : World) (c : UInt8) (n : Int) (hn : n = (c.toNat : Int)) : (convert 63 9 (.slice (some ⟨w.heap.size, 0, none⟩) 1 1)).run Tryd.prog (w.alloc (.cells #[.int .u8 n] 5)) = .ok (.string (bs [c])) (w.alloc (.cells #[.int .u8 n] 5)) := by
  subst hn
  exact run_string_of_row _ 63 9 5 w.heap.size _ [c] Tryd.underlying63 Tryd.underlying5 Tryd.underlying9
    (World.ownsRow_lit (base := w.heap.size) (e := 5) (size := 1) w #[.int .u8 (c.toNat : Int)] 1 (Nat.le_refl _) (by unfold maxLen; omega) rfl)
theorem dig_nat (u : Nat) : ((UInt8.ofNat (48 + u % 10)).toNat : Int) = 48 + (u : Int) % 10 := by
  rw [toNat_ofNat (by omega)]
  omega
theorem dec_step {u : Nat} (h : ¬ u < 10) : Lib.decDigits u = Lib.decDigits (u / 10) ++ [UInt8.ofNat (48 + u % 10)] := by rw [Lib.decDigits, dif_neg h]
set_option maxRecDepth 100000 in
theorem big_any (v : Nat) (w : World) (hv : v < 18446744073709551616) :
    Calls Tryd.prog 44 #[.int .u64 (v : Int)] w fun e w' => e = .returned (.string (bs (Lib.decDigits v))) ∧ Below w.heap.size w w' := by
  have hn : (Lib.decDigits v).length ≤ 20 := by rw [Lib.decDigits_length]; have := nDigits_le 19 v (by omega); omega
  go_enter Tryd.func44, Tryd.ntmps44
  go_wp2_with fail
  go_loopw [0, 3] (fun s0 s3 wr => ∃ (x : Nat) (l : List UInt8), x ≤ v ∧ s0 = .int .u64 (x : Int) ∧ s3 = .string (bs l) ∧ Lib.decDigits x ++ l = Lib.decDigits v ∧ Below w.heap.size w wr) (fun s0 _ _ => (intOf s0).toNat)
  case atStart => exact ⟨v, [], Nat.le_refl _, rfl, rfl, List.append_nil _, Below.refl _ _⟩
  case round =>
    obtain ⟨x, l, hxv, rfl, rfl, hE, hB⟩ := hrel
    have HE := Lib.hid hE
    have HB := Lib.hid hB
    have hsz := hB.size
    have hll : (bs l).size ≤ 20 := by
      rw [bs_size]
      have := congrArg List.length hE
      rw [List.length_append] at this
      omega
    have hx64 : (x : Int) < 18446744073709551616 := by omega
    have hx0 : (0 : Int) ≤ (x : Int) := by omega
    clear hE hB
    by_cases h10 : x < 10
    · have hge : ¬ ((10 : Int) ≤ (x : Int)) := by omega
      have hd := dig_nat x
      rw [Nat.mod_eq_of_lt h10, show ((x : Int) % 10) = (x : Int) by omega] at hd
      obtain ⟨c, hc⟩ : ∃ c, c = UInt8.ofNat (48 + x) := ⟨_, rfl⟩
      rw [← hc] at hd
      have hcv := one_sign wr c (48 + (x : Int)) hd.symm
      have HC := Lib.hid hc
      have hz2 : (bs [c]).size = 1 := rfl
      clear hc hd
      have hcat := Lib.hid (show bs [c] ++ bs l = bs (Lib.decDigits v) by rw [bs_append, ← HE.out, HC.out, Lib.decDigits_one h10])
      go_wp2_with fail
      go_ret
      exact ⟨by rw [← hcat.out]; rfl, HB.out.alloc hsz _⟩
    · have hge : ((10 : Int) ≤ (x : Int)) := by omega
      have hd := dig_nat x
      obtain ⟨c, hc⟩ : ∃ c, c = UInt8.ofNat (48 + x % 10) := ⟨_, rfl⟩
      rw [← hc] at hd
      have hcv := one_sign wr c (48 + (x : Int) % 10) hd.symm
      have HC := Lib.hid hc
      have hz2 : (bs [c]).size = 1 := rfl
      clear hc hd
      have hcat := Lib.hid (show bs [c] ++ bs l = bs (c :: l) by rw [bs_append]; rfl)
      have hE2 := Lib.hid (show Lib.decDigits (x / 10) ++ (c :: l) = Lib.decDigits v by rw [← HE.out, dec_step h10, ← HC.out, List.append_assoc]; rfl)
      go_wp2_with fail
      refine ⟨⟨x / 10, c :: l, by omega, ?_, by rw [hcat.out], hE2.out, HB.out.alloc hsz _⟩, ?_⟩
      · exact congrArg (Value.int .u64) (by omega)
      · show ((x : Int) / 10).toNat < (x : Int).toNat
        omega
/-- A number of an int. -/
theorem number_any (x : Int) (w : World) (h : I64 x) : Calls Tryd.prog 34 #[.int .i64 x] w fun e w' => e = .returned (.string (bs (Lib.itoa x))) ∧ Below w.heap.size w w' := by
  obtain ⟨h1, h2⟩ := h
  by_cases hn : x < 0
  · obtain ⟨u, hu⟩ : ∃ u : Nat, x = -(u : Int) := ⟨x.natAbs, by omega⟩
    subst hu
    have hu1 : 1 ≤ u := by omega
    have hu2 : u < 18446744073709551616 := by omega
    have hl := Lib.hid (Lib.itoa_neg u hu1)
    have hn2 : (Lib.decDigits u).length ≤ 20 := by rw [Lib.decDigits_length]; have := nDigits_le 19 u (by omega); omega
    have hz : (bs (Lib.decDigits u)).size ≤ 20 := by rw [bs_size]; exact hn2
    have HB := Lib.hid (big_any u w hu2)
    clear hn2
    go_enter Tryd.func34, Tryd.ntmps34
    have hcat := Lib.hid (show (⟨#[45]⟩ : ByteArray) ++ bs (Lib.decDigits u) = bs (Lib.itoa (-(u : Int))) by rw [show (⟨#[45]⟩ : ByteArray) = bs [45] from rfl, bs_append, hl.out]; rfl)
    go_wp2_with fail
    rw [show (-(-(u : Int) + 1) + 1) = (u : Int) by omega]
    refine HB.out.mono ?_
    rintro e w1 ⟨rfl, hb⟩
    have hb' := Lib.hid hb
    clear hb
    go_wp2_with fail
    go_ret
    exact ⟨by rw [← hcat.out]; rfl, hb'.out⟩
  · obtain ⟨u, hu⟩ : ∃ u : Nat, x = (u : Int) := ⟨x.toNat, by omega⟩
    subst hu
    have hu2 : u < 18446744073709551616 := by omega
    have hl := Lib.hid (Lib.itoa_nonneg u)
    have HB := Lib.hid (big_any u w hu2)
    go_enter Tryd.func34, Tryd.ntmps34
    go_wp2_with fail
    refine HB.out.mono ?_
    rintro e w1 ⟨rfl, hb⟩
    have hb' := Lib.hid hb
    clear hb
    go_wp2
    go_ret
    exact ⟨by rw [hl.out]; rfl, hb'.out⟩
end Go.Proofs.YtpjafbinlklojaaDoor

/- Layer 20's list, plain: a class told as numbers and texts; how many there are at most; what few of them bound. No program. -/
namespace Go.Proofs.YtpjafbinlklojaaDoor

/-- A 64-bit number read with a sign. -/
def sgn (b : Nat) : Int := Go.RowKit.wrap64 (b : Int)
/-- Numbers and texts. -/
abbrev Tl : Type := List Int × List (List UInt8)
def Tl.add (a b : Tl) : Tl := (a.1 ++ b.1, a.2 ++ b.2)
def tlInts (ns : List Int) : Tl := (ns, [])
def tlTexts (ss : List (List UInt8)) : Tl := ([(ss.length : Int)], ss)
def tlAll {α : Type} (f : α → Tl) : List α → Tl
  | [] => ([], [])
  | x :: xs => (f x).add (tlAll f xs)
def tlVal (v : Pv) : Tl := (tlInts [v.tag, sgn v.bits]).add (tlTexts [v.text, v.cls, v.name, v.desc])
def tlIns (i : Cins) : Tl := (((tlInts [i.op, i.var, i.num, i.to, i.keys.length, i.targets.length]).add (tlVal i.const)).add (tlInts i.keys)).add (tlInts i.targets)
def tlHnd (h : Hnd) : Tl := (tlInts [h.from_, h.till, h.to]).add (tlTexts [h.kind])
def tlLno (l : Lno) : Tl := tlInts [l.at_, l.line]
def tlSlt (s : Slt) : Tl := (tlInts [s.from_, s.till, s.var]).add (tlTexts [s.name, s.desc])
def tlCode (c : Cde) : Tl := ((((tlInts [c.stack, c.locals, c.has, c.ops.length, c.handlers.length, c.lines.length, c.slots.length]).add (tlAll tlIns c.ops)).add (tlAll tlHnd c.handlers)).add (tlAll tlLno c.lines)).add (tlAll tlSlt c.slots)
def tlInr (i : Inr) : Tl := (tlInts [i.flags]).add (tlTexts [i.cls, i.outer, i.name])
def tlAtr (a : Atr) : Tl := (((((tlInts [a.has, a.inners.length]).add (tlCode a.code)).add (tlVal a.value)).add (tlTexts a.throws)).add (tlAll tlInr a.inners)).add (tlTexts [a.signature, a.source])
def tlMbr (m : Mbr) : Tl := ((tlInts [m.flags]).add (tlTexts [m.name, m.desc])).add (tlAtr m.attrs)
def tlCls (c : Cls) : Tl := ((((tlInts [c.minor, c.major, c.flags, c.fields.length, c.methods.length]).add (tlTexts [c.this, c.super])).add (tlTexts c.faces)).add (tlAll tlMbr (c.fields ++ c.methods))).add (tlAtr c.attrs)
theorem Tl.add_nil (a : Tl) : a.add ([], []) = a := by simp [Tl.add]
theorem Tl.nil_add (a : Tl) : Tl.add ([], []) a = a := by simp [Tl.add]
theorem Tl.add_assoc (a b c : Tl) : (a.add b).add c = a.add (b.add c) := by simp [Tl.add]
theorem tlAll_app {α : Type} (f : α → Tl) : ∀ (xs ys : List α), tlAll f (xs ++ ys) = (tlAll f xs).add (tlAll f ys)
  | [], ys => by simp [tlAll, Tl.nil_add]
  | x :: xs, ys => by simp only [List.cons_append, tlAll]; rw [tlAll_app f xs ys, Tl.add_assoc]
theorem tlAll_snoc {α : Type} (f : α → Tl) {xs : List α} {i : Nat} {x : α} (h : xs[i]? = some x) : tlAll f (xs.take (i + 1)) = (tlAll f (xs.take i)).add (f x) := by
  obtain ⟨h1, rfl⟩ := List.getElem?_eq_some_iff.1 h
  rw [List.take_succ_eq_append_getElem h1, tlAll_app]
  simp [tlAll, Tl.add_nil]
/-- How much is told: numbers, and texts with what is in them. -/
def Tl.size (a : Tl) : Nat := a.1.length + (a.2.map fun s => s.length + 1).sum
theorem Tl.size_add (a b : Tl) : (a.add b).size = a.size + b.size := by
  simp only [Tl.size, Tl.add, List.length_append, List.map_append, List.sum_append]
  omega
theorem size_ints (ns : List Int) : (tlInts ns).size = ns.length := by simp [Tl.size, tlInts]
theorem size_texts (ss : List (List UInt8)) : (tlTexts ss).size = 1 + (ss.map fun s => s.length + 1).sum := by simp [Tl.size, tlTexts]
theorem size_all {α : Type} (f : α → Tl) (g : α → Nat) (k : Nat) : ∀ (xs : List α), (∀ x ∈ xs, (f x).size ≤ k * g x) → (tlAll f xs).size ≤ k * (xs.map g).sum
  | [], _ => by simp [tlAll, Tl.size]
  | x :: xs, h => by
    have h1 := h x (List.mem_cons_self ..)
    have h2 := size_all f g k xs (fun y hy => h y (List.mem_cons_of_mem _ hy))
    simp only [tlAll, Tl.size_add, List.map_cons, List.sum_cons, Nat.mul_add]
    omega
theorem size_val (v : Pv) : (tlVal v).size ≤ 2 * v.blk := by
  unfold tlVal Pv.blk
  rw [Tl.size_add, size_ints, size_texts]
  simp
  omega
theorem size_ins (i : Cins) : (tlIns i).size ≤ 2 * i.blk := by
  unfold tlIns Cins.blk
  have := size_val i.const
  simp only [Tl.size_add, size_ints, List.length_cons, List.length_nil]
  omega
theorem size_hnd (h : Hnd) : (tlHnd h).size ≤ 2 * h.blk := by
  unfold tlHnd Hnd.blk
  simp [Tl.size_add, size_ints, size_texts]
  omega
theorem size_lno (l : Lno) : (tlLno l).size ≤ 2 * l.blk := by
  unfold tlLno Lno.blk
  simp [size_ints]
theorem size_slt (s : Slt) : (tlSlt s).size ≤ 2 * s.blk := by
  unfold tlSlt Slt.blk
  simp [Tl.size_add, size_ints, size_texts]
  omega
theorem size_code (c : Cde) : (tlCode c).size ≤ 2 * c.blk := by
  unfold tlCode Cde.blk
  have h1 := size_all tlIns Cins.blk 2 c.ops (fun x _ => size_ins x)
  have h2 := size_all tlHnd Hnd.blk 2 c.handlers (fun x _ => size_hnd x)
  have h3 := size_all tlLno Lno.blk 2 c.lines (fun x _ => size_lno x)
  have h4 := size_all tlSlt Slt.blk 2 c.slots (fun x _ => size_slt x)
  simp only [Tl.size_add, size_ints, List.length_cons, List.length_nil]
  omega
theorem size_inr (i : Inr) : (tlInr i).size ≤ 2 * i.blk := by
  unfold tlInr Inr.blk
  simp [Tl.size_add, size_ints, size_texts]
  omega
theorem size_atr (a : Atr) : (tlAtr a).size ≤ 2 * a.blk := by
  unfold tlAtr Atr.blk
  have h1 := size_code a.code
  have h2 := size_val a.value
  have h3 := size_all tlInr Inr.blk 2 a.inners (fun x _ => size_inr x)
  simp only [Tl.size_add, size_ints, size_texts, List.length_cons, List.length_nil, List.map_cons, List.map_nil, List.sum_cons, List.sum_nil]
  omega
theorem size_mbr (m : Mbr) : (tlMbr m).size ≤ 2 * m.blk := by
  unfold tlMbr Mbr.blk
  have h1 := size_atr m.attrs
  simp only [Tl.size_add, size_ints, size_texts, List.length_cons, List.length_nil, List.map_cons, List.map_nil, List.sum_cons, List.sum_nil]
  omega
/-- No more is told than twice a class's bulk. -/
theorem size_cls (c : Cls) : (tlCls c).size ≤ 2 * c.blk := by
  unfold tlCls Cls.blk
  have h1 := size_atr c.attrs
  have h2 := size_all tlMbr Mbr.blk 2 (c.fields ++ c.methods) (fun x _ => size_mbr x)
  rw [List.map_append, List.sum_append] at h2
  simp only [Tl.size_add, size_ints, size_texts, List.length_cons, List.length_nil, List.map_cons, List.map_nil, List.sum_cons, List.sum_nil]
  omega
/-- Not too great to be asked about. -/
def Tl.few (a : Tl) : Bool := decide ((a.2.map fun s => min s.length 100000).sum ≤ 20000) && decide (a.1.length ≤ 20000)
end Go.Proofs.YtpjafbinlklojaaDoor

/- Rows of things of any kind: what is read of a handed-in slice; what is read at a place. No program. -/
namespace Go.Proofs.YtpjafbinlklojaaDoor
open Go.ChangeShapes Go.WideShapes Go.ChangeAt Go.RowKit Go.Deep

theorem addr_plus (g o j : Nat) : Addr.add ⟨g, o, none⟩ j = ⟨g, o + j, none⟩ := by unfold Addr.add; split <;> simp_all
/-- These cells lie from a place on. -/
def CellsAt (w : World) (g o : Nat) (cs : List Value) : Prop := ∀ (k : Nat) u, cs[k]? = some u → w.cell? ⟨g, o + k, none⟩ = some u
theorem CellsAt.grow {w w' : World} {g o : Nat} {cs : List Value} (h : CellsAt w g o cs) (k : Below w.heap.size w w') (hg : g < w.heap.size) : CellsAt w' g o cs := fun j u hu => (k.cell (p := ⟨g, o + j, none⟩) hg).trans (h j u hu)
theorem CellsAt.part {w : World} {g o : Nat} {cs : List Value} (h : CellsAt w g o cs) (a n : Nat) : CellsAt w g (o + a) ((cs.drop a).take n) := fun k u hu => by
  rw [List.getElem?_take] at hu
  split at hu
  · rw [List.getElem?_drop] at hu
    rw [Nat.add_assoc]
    exact h _ u hu
  · cases hu
/-- A row that reads as these things: each fills so many cells. -/
def Sl {Y : Type} (size : Nat) (R : World → List Value → Y → Prop) (w : World) (A : Option Addr) (c : Nat) (ys : List Y) : Prop :=
  ys.length ≤ c ∧ (0 < ys.length → ∃ g o, A = some ⟨g, o, none⟩ ∧ g < w.heap.size ∧ ∀ (j : Nat) y, ys[j]? = some y → ∃ cs : List Value, R w cs y ∧ cs.length = size ∧ CellsAt w g (o + j * size) cs)
section
variable {Y : Type} {size : Nat} {R : World → List Value → Y → Prop} {w w' : World} {A : Option Addr} {c : Nat} {ys : List Y}
theorem Sl.nil (w : World) (A : Option Addr) (c : Nat) : Sl size R w A c [] := ⟨Nat.zero_le _, fun h => by simp at h⟩
theorem Sl.grow (h : Sl size R w A c ys) (k : Below w.heap.size w w') (hR : ∀ cs y, R w cs y → R w' cs y) : Sl size R w' A c ys :=
  ⟨h.1, fun hp => by
    obtain ⟨g, o, e, hg, hc⟩ := h.2 hp
    refine ⟨g, o, e, Nat.lt_of_lt_of_le hg k.size, fun j y hy => ?_⟩
    obtain ⟨cs, h1, h2, h3⟩ := hc j y hy
    exact ⟨cs, hR cs y h1, h2, h3.grow k hg⟩⟩
theorem Sl.at_ (h : Sl size R w A c ys) {i : Nat} (hi : i < ys.length) : ∃ g o y cs, A = some ⟨g, o, none⟩ ∧ g < w.heap.size ∧ ys[i]? = some y ∧ R w cs y ∧ cs.length = size ∧ CellsAt w g (o + i * size) cs := by
  obtain ⟨g, o, e, hg, hc⟩ := h.2 (by omega)
  obtain ⟨cs, h1, h2, h3⟩ := hc i _ (List.getElem?_eq_getElem hi)
  exact ⟨g, o, _, cs, e, hg, List.getElem?_eq_getElem hi, h1, h2, h3⟩
end
theorem weights_in {H : Type} {P : Program} {e : TypeId} : ∀ {ds : List (DataW H)} {d : DataW H}, d ∈ ds → ∀ n ∈ d.weights P e, n ∈ DataW.weightsAll P e ds
  | d0 :: ds, d, h, n, hn => by
    simp only [DataW.weightsAll, List.mem_append]
    rcases List.mem_cons.1 h with rfl | h
    · exact .inl hn
    · exact .inr (weights_in h n hn)
theorem bulk_all {H : Type} : ∀ l : List (DataW H), Rows.uptoBulkAll l = (l.map Rows.uptoBulk).sum
  | [] => by simp [Rows.uptoBulkAll]
  | d :: l => by rw [Rows.uptoBulkAll, bulk_all l]; rfl
theorem sum_le {α β : Type} (f : α → Nat) (g : β → Nat) : ∀ (a : List α) (b : List β), a.length = b.length → (∀ (i : Nat) x y, a[i]? = some x → b[i]? = some y → f x ≤ g y) → (a.map f).sum ≤ (b.map g).sum
  | [], [], _, _ => Nat.le_refl _
  | x :: a, y :: b, h, k => by
    rw [List.map_cons, List.map_cons, List.sum_cons, List.sum_cons]
    have h1 := k 0 x y rfl rfl
    have h2 := sum_le f g a b (by simpa using h) (fun i u v hu hv => k (i + 1) u v (by simpa using hu) (by simpa using hv))
    omega
/-- What is read of a handed-in slice, if each of its things reads. -/
theorem view_sl {P : Program} {H : Type} {enc : TypeId × Value → H} {W : World} {base : Nat} {sp : Nat → Bool} {held : Bool} {Y : Type} {t e : TypeId} {size : Nat} {R : World → List Value → Y → Prop} {good : Y → Prop} {blk : Y → Nat}
    (ht : P.underlying t = some (.slice e)) (hsz : P.cellsOf e = size) (h0 : 0 < size) (hby : 0 < P.bytesOf e)
    (hE : ∀ (fuel : Nat) (cs : List Value) (x : DataW H × List MemPlace), DataW.trod enc P W base sp held fuel e cs = some x → (∀ n ∈ x.1.weights P e, n ≤ reachBytes) → ∃ y, good y ∧ cs.length = size ∧ R W cs y ∧ blk y ≤ Rows.uptoBulk x.1)
    {fuel : Nat} {cs : List Value} {x : DataW H × List MemPlace} (h : DataW.trod enc P W base sp held fuel t cs = some x) (hw : ∀ n ∈ x.1.weights P t, n ≤ reachBytes) :
    ∃ A c ys, cs = [.slice A (List.length ys) c] ∧ Sl size R W A c ys ∧ ys.length ≤ 140737488355328 ∧ (A = none → c = 0) ∧ (∀ y ∈ ys, good y) ∧ (ys.map blk).sum + 1 ≤ Rows.uptoBulk x.1 := by
  rcases open_slice ht h with ⟨rfl, rfl⟩ | ⟨a, len, cap, m, n, D, Pl, rfl, _, hl, _, hm, rfl, hx⟩
  · exact ⟨none, 0, [], rfl, Sl.nil _ _ _, by simp, fun _ => rfl, (fun v hv => by cases hv), by simp [Rows.uptoBulk]⟩
  · have hlm : len ≤ m := by rw [hm]; split <;> omega
    rw [hsz] at hx
    have hex : ∀ i, i < len → ∃ y, (good y ∧ blk y ≤ Rows.uptoBulk (D i)) ∧ ∃ cs', W.cells? base (a.add (i * size)) size = some cs' ∧ R W cs' y := fun i hi => by
      obtain ⟨cs', h1, h2⟩ := hx i (by omega)
      obtain ⟨y, hy, _, hr, hbk⟩ := hE _ _ _ h2 (fun n hn => hw n (by
        simp only [DataW.weights, ht, List.mem_cons, List.mem_append]
        exact .inr (.inl (weights_in (List.mem_map.2 ⟨i, List.mem_range.2 hi, rfl⟩) n hn))))
      exact ⟨y, ⟨hy, hbk⟩, cs', h1, hr⟩
    obtain ⟨f, hf⟩ : ∃ f : (i : Nat) → i < len → Y, ∀ i (hi : i < len), (good (f i hi) ∧ blk (f i hi) ≤ Rows.uptoBulk (D i)) ∧ ∃ cs', W.cells? base (a.add (i * size)) size = some cs' ∧ R W cs' (f i hi) :=
      ⟨fun i hi => Classical.choose (hex i hi), fun i hi => Classical.choose_spec (hex i hi)⟩
    have hll : (List.ofFn fun i : Fin len => f i.val i.isLt).length = len := List.length_ofFn
    have hat : ∀ (j : Nat) y, (List.ofFn fun i : Fin len => f i.val i.isLt)[j]? = some y → ∃ hj : j < len, y = f j hj := fun j y hy => by
      have hj := (List.getElem?_eq_some_iff.1 hy).1
      rw [hll] at hj
      refine ⟨hj, ?_⟩
      rw [List.getElem?_ofFn] at hy
      simp only [hj, dite_true, Option.some.injEq] at hy
      exact hy.symm
    have hr2 : reachBytes + 24 ≤ 140737488355328 := by decide
    refine ⟨some a, cap, List.ofFn fun i : Fin len => f i.val i.isLt, by rw [hll], ⟨by rw [hll]; exact hl, fun hp => ?_⟩, ?_, (fun e => by cases e), fun v hv => ?_, ?_⟩
    · rw [hll] at hp
      obtain ⟨_, cs0, h1, _⟩ := hf 0 hp
      obtain ⟨_, hln, hc⟩ := World.cells?_some h1
      have h2 := hc 0 h0
      rw [Nat.zero_mul] at h2
      obtain ⟨u0, hu0⟩ : ∃ u0, cs0[0]? = some u0 := ⟨_, List.getElem?_eq_getElem (by omega)⟩
      rw [hu0] at h2
      obtain ⟨g, o, s⟩ := a
      have hs : s = none := by simpa [Addr.add] using World.cell?_spot h2
      subst hs
      refine ⟨g, o, rfl, by simpa [Addr.add] using World.block_lt_of_cell? W _ h2, fun j y hy => ?_⟩
      obtain ⟨hj, rfl⟩ := hat j y hy
      obtain ⟨_, cs', k2, k3⟩ := hf j hj
      obtain ⟨_, hln', hc'⟩ := World.cells?_some k2
      refine ⟨cs', k3, hln', fun k u hu => ?_⟩
      have hk := (List.getElem?_eq_some_iff.1 hu).1
      have := hc' k (by omega)
      rw [addr_plus, addr_plus, hu] at this
      exact this
    · rw [hll]
      have := hw ((((List.range len).map D).length + ((List.range (m - len)).map fun j => D (len + j)).length) * P.bytesOf e) (by simp only [DataW.weights, ht]; exact List.mem_cons_self ..)
      simp only [List.length_map, List.length_range] at this
      have h5 : len * 1 ≤ (len + (m - len)) * P.bytesOf e := Nat.mul_le_mul (by omega) hby
      omega
    · obtain ⟨j, hj, rfl⟩ := List.mem_iff_getElem.1 hv
      obtain ⟨hj2, e⟩ := hat j _ (List.getElem?_eq_getElem hj)
      rw [e]
      exact (hf j hj2).1.1
    · have h9 := sum_le blk Rows.uptoBulk (List.ofFn fun i : Fin len => f i.val i.isLt) ((List.range len).map D) (by simp) (fun i y d hy hd => by
        obtain ⟨hj, rfl⟩ := hat i y hy
        have : d = D i := by
          rw [List.getElem?_map, List.getElem?_range hj] at hd
          exact (Option.some.inj hd).symm
        rw [this]
        exact (hf i hj).1.2)
      simp only [Rows.uptoBulk]
      rw [bulk_all ((List.range len).map D)]
      omega
end Go.Proofs.YtpjafbinlklojaaDoor

/- Fields of handed-in structs: what each reads as. No program of its own. -/
namespace Go.Proofs.YtpjafbinlklojaaDoor
open Go.ChangeShapes Go.WideShapes Go.ChangeAt Go.RowKit Go.Deep

section
variable {P : Program} {H : Type} {enc : TypeId × Value → H} {W : World} {base : Nat} {sp : Nat → Bool} {held : Bool} {fuel : Nat} {t : TypeId} {cs : List Value} {x : DataW H × List MemPlace}
theorem part_one {cs : List Value} {o m : Nat} {u : Value} (h : (cs.drop o).take m = [u]) : cs[o]? = some u := by
  have h1 := congrArg (fun l : List Value => l[0]?) h
  simp only [List.getElem?_take, List.getElem?_drop, List.getElem?_cons_zero, Nat.add_zero] at h1
  split at h1
  · exact h1
  · cases h1
/-- A struct's fields, each with its weights, and their bulk. -/
theorem view_field {fs : Array Field} (ht : P.underlying t = some (.struct fs)) (h : DataW.trod enc P W base sp held fuel t cs = some x) (hw : ∀ n ∈ x.1.weights P t, n ≤ reachBytes) :
    cs.length = P.cellsOf t ∧ ∃ ds : List (DataW H × List MemPlace), ds.length = fs.size ∧ Rows.uptoBulk x.1 = (ds.map fun d => Rows.uptoBulk d.1).sum + 1 ∧
      ∀ (i : Nat) (f : Field) (y : DataW H × List MemPlace), fs[i]? = some f → ds[i]? = some y → ∃ k : Nat, DataW.trod enc P W base sp held k f.type ((cs.drop f.offset).take (P.cellsOf f.type)) = some y ∧ ∀ n ∈ y.1.weights P f.type, n ≤ reachBytes := by
  obtain ⟨xs, n, _, hx, hlen, hlen2, hf⟩ := DataW.trod_struct ht h
  subst hx
  refine ⟨hlen, xs, hlen2, ?_, fun i f y hi hy => ⟨n, (hf i f hi).trans hy, fun m hm => hw m ?_⟩⟩
  · simp only [Rows.uptoBulk]
    rw [bulk_all, List.map_map]
    rfl
  · simp only [DataW.weights, ht]
    refine DataW.weights_mem_each (j := i) (t := f.type) (d := y.1) ?_ ?_ m hm
    · simp [hi]
    · simp [hy]
theorem field_int {o m : Nat} (ht : P.underlying t = some (.int .i64)) (h : DataW.trod enc P W base sp held fuel t ((cs.drop o).take m) = some x) : ∃ n : Int, cs[o]? = some (.int .i64 n) ∧ I64 n ∧ 1 ≤ Rows.uptoBulk x.1 := by
  obtain ⟨n, e, hx, hwf⟩ := DataW.trod_int ht h
  exact ⟨n, part_one e, bounds_i64 hwf, by rw [hx]; simp [Rows.uptoBulk]⟩
theorem field_u64 {o m : Nat} (ht : P.underlying t = some (.int .u64)) (h : DataW.trod enc P W base sp held fuel t ((cs.drop o).take m) = some x) : ∃ n : Nat, cs[o]? = some (.int .u64 n) ∧ n < 18446744073709551616 ∧ 1 ≤ Rows.uptoBulk x.1 := by
  obtain ⟨n, e, hx, hwf⟩ := DataW.trod_int ht h
  have hb := bounds_u64 hwf
  refine ⟨n.toNat, ?_, by omega, by rw [hx]; simp [Rows.uptoBulk]⟩
  rw [part_one e]
  congr 2
  omega
theorem field_str {o m : Nat} (ht : P.underlying t = some .string) (h : DataW.trod enc P W base sp held fuel t ((cs.drop o).take m) = some x) (hw : ∀ n ∈ x.1.weights P t, n ≤ reachBytes) : ∃ s : List UInt8, cs[o]? = some (.string (bs s)) ∧ s.length ≤ 140737488355328 ∧ s.length + 1 ≤ Rows.uptoBulk x.1 := by
  obtain ⟨s, e, hx, _⟩ := DataW.trod_string ht h
  refine ⟨s.data.toList, ?_, ?_, by rw [hx]; simp [Rows.uptoBulk]⟩
  · rw [part_one e]
    cases s
    simp [bs]
  · subst hx
    have h1 := hw s.data.toList.length (by simp [DataW.weights])
    have hr2 : reachBytes + 24 ≤ 140737488355328 := by decide
    omega
end
theorem sum_ones {α : Type} (l : List α) : (l.map fun _ => 1).sum = l.length := by
  induction l with
  | nil => rfl
  | cons a l ih => simp only [List.map_cons, List.sum_cons, List.length_cons, ih]; omega
/-- Things of one cell. -/
theorem Sl.ints {w : World} {A : Option Addr} {c : Nat} {ys : List Int} (h : Sl 1 (fun _ cs (y : Int) => cs = [.int .i64 y]) w A c ys) : Ints w A c ys :=
  ⟨h.1, fun hp => by
    obtain ⟨g, o, e, hg, hc⟩ := h.2 hp
    refine ⟨g, o, e, hg, fun j y hy => ?_⟩
    obtain ⟨cs, rfl, _, h3⟩ := hc j y hy
    have := h3 0 _ rfl
    rwa [Nat.mul_one, Nat.add_zero] at this⟩
theorem Sl.texts {w : World} {A : Option Addr} {c : Nat} {ys : List (List UInt8)} (h : Sl 1 (fun _ cs (y : List UInt8) => cs = [.string (bs y)]) w A c ys) : Txt w A c ys :=
  ⟨h.1, fun hp => by
    obtain ⟨g, o, e, hg, hc⟩ := h.2 hp
    refine ⟨g, o, e, hg, fun j y hy => ?_⟩
    obtain ⟨cs, rfl, _, h3⟩ := hc j y hy
    have := h3 0 _ rfl
    rwa [Nat.mul_one, Nat.add_zero] at this⟩
section
variable {H : Type} {enc : TypeId × Value → H} {W : World} {base : Nat} {sp : Nat → Bool} {held : Bool} {fuel : Nat} {cs : List Value} {x : DataW H × List MemPlace}
theorem field_ints {o m : Nat} (h : DataW.trod enc Tryd.prog W base sp held fuel 45 ((cs.drop o).take m) = some x) (hw : ∀ n ∈ x.1.weights Tryd.prog 45, n ≤ reachBytes) :
    ∃ A c ys, cs[o]? = some (.slice A (List.length ys) c) ∧ Ints W A c ys ∧ ys.length ≤ 140737488355328 ∧ (A = none → c = 0) ∧ (∀ y ∈ ys, I64 y) ∧ ys.length + 1 ≤ Rows.uptoBulk x.1 := by
  obtain ⟨A, c, ys, e, h1, h2, h3, h4, h5⟩ := view_sl (size := 1) (R := fun _ cs (y : Int) => cs = [.int .i64 y]) (good := I64) (blk := fun _ => 1) Tryd.underlying45 (by kernel_rfl) (by decide) (by rw [show Tryd.prog.bytesOf 3 = 8 from by kernel_rfl]; decide) (fun fuel cs x h hw => by
    obtain ⟨n, e, hx, hwf⟩ := DataW.trod_int Tryd.underlying3 h
    exact ⟨n, bounds_i64 hwf, by rw [e]; rfl, e, by rw [hx]; simp [Rows.uptoBulk]⟩) h hw
  exact ⟨A, c, ys, part_one e, h1.ints, h2, h3, h4, by rw [sum_ones] at h5; exact h5⟩
theorem field_strs {o m : Nat} (h : DataW.trod enc Tryd.prog W base sp held fuel 22 ((cs.drop o).take m) = some x) (hw : ∀ n ∈ x.1.weights Tryd.prog 22, n ≤ reachBytes) :
    ∃ A c ys, cs[o]? = some (.slice A (List.length ys) c) ∧ Txt W A c ys ∧ ys.length ≤ 140737488355328 ∧ (A = none → c = 0) ∧ (∀ y ∈ ys, y.length ≤ 140737488355328) ∧ (ys.map fun y => y.length + 1).sum + 1 ≤ Rows.uptoBulk x.1 := by
  obtain ⟨A, c, ys, e, h1, h2, h3, h4, h5⟩ := view_sl (size := 1) (R := fun _ cs (y : List UInt8) => cs = [.string (bs y)]) (good := fun y => y.length ≤ 140737488355328) (blk := fun y => y.length + 1) Tryd.underlying22 (by kernel_rfl) (by decide) (by rw [show Tryd.prog.bytesOf 9 = 16 from by kernel_rfl]; decide) (fun fuel cs x h hw => by
    obtain ⟨s, e, hx, _⟩ := DataW.trod_string Tryd.underlying9 h
    refine ⟨s.data.toList, ?_, by rw [e]; rfl, by rw [e]; cases s; simp [bs], by rw [hx]; simp [Rows.uptoBulk]⟩
    subst hx
    have h1 := hw s.data.toList.length (by simp [DataW.weights])
    have hr2 : reachBytes + 24 ≤ 140737488355328 := by decide
    omega) h hw
  exact ⟨A, c, ys, part_one e, h1.texts, h2, h3, h4, h5⟩
end
end Go.Proofs.YtpjafbinlklojaaDoor
