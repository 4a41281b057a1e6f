/- Joined texts: PpWalksF, PpPlainD, Bd, Be, Bits, BhA, BhP, BhB, Bytes. -/
import Derived.Test.YtbdkoagagcemcaaPk3
import Derived.Deep.OwnRows
import Derived.Test.YtbdkoagagcemcaaPk1
import Derived.WalkKit
import Derived.Test.YtbdkoagagcemcaaPk2
import Derived.Test.YtbdkoagagcemcaaProg
import Derived.WalkSpells
import Derived.LoopN
import Derived.Lib.Hide
import Derived.Laws.OwnMore
/- The walk of layer 25: joining. -/
namespace Go.Proofs.Ytbdkoagagcemcaa.Pp
open Go.RowKit Go.Maps

/-- What the call comes to. -/
def JoinRes (fs ts rs : List Int) (w : World) (e : Ending) (w' : World) : Prop :=
  ∃ A c, e = .returned (.tuple #[.slice A (Po.out fs ts rs).length c, .int .i64 (Po.err fs ts rs)]) ∧ (Ints w' A c (Po.out fs ts rs) ∧ ∀ g o, A = some ⟨g, o, none⟩ → w.heap.size ≤ g) ∧ Below w.heap.size w w'
theorem _root_.Go.Proofs.Ytbdkoagagcemcaa.Ints.next {w : World} {A : Option Addr} {c : Nat} {x : Int} {xs : List Int} (h : Ints w A c (x :: xs)) : ∃ g o, A = some ⟨g, o, none⟩ ∧ g < w.heap.size ∧ w.cell? ⟨g, o, none⟩ = some (.int .i64 x) ∧ xs.length + 1 ≤ c ∧ Ints w (if c = 1 then some ⟨g, o, none⟩ else some ⟨g, o + 1, none⟩) (c - 1) xs := by
  obtain ⟨g, o, rfl, hg, hc⟩ := h.2 (by simp)
  have h1 := h.1
  rw [List.length_cons] at h1
  refine ⟨g, o, rfl, hg, by simpa using hc 0 x (by simp), h1, by omega, fun hp => ?_⟩
  rw [if_neg (by omega)]
  refine ⟨g, o + 1, rfl, hg, fun j y hy => ?_⟩
  have := hc (j + 1) y (by simpa using hy)
  rw [show o + 1 + j = o + (j + 1) from by omega]
  exact this
theorem drop_at {α : Type} {l : List α} {i : Nat} {x : α} (h : l[i]? = some x) : l.drop i = x :: l.drop (i + 1) := by
  obtain ⟨h3, rfl⟩ := List.getElem?_eq_some_iff.1 h
  exact List.drop_eq_getElem_cons h3
/-- One number more is stored. -/
theorem row_step {w : World} {b n i : Nat} {t : TypeId} {f : Nat → Int} {y : Int} (h : w.rowIs b t n (fun j => if j < i then .int .i64 (f j) else .int .i64 0)) (hy : f i = y) :
    (w.setCell ⟨b, i, none⟩ (.int .i64 y)).rowIs b t n (fun j => if j < i + 1 then .int .i64 (f j) else .int .i64 0) :=
  (h.set i _).congr (fun j _ => by
    by_cases e : j = i
    · subst e; simp [hy]
    · rw [if_neg e]
      by_cases h1 : j < i
      · rw [if_pos h1, if_pos (by omega)]
      · rw [if_neg h1, if_neg (by omega)])

set_option maxHeartbeats 8000000 in
set_option maxRecDepth 100000 in
theorem join_any (A B C : Option Addr) (c d k : Nat) (fs ts rs : List Int) (w : World) (hx : Ints w A c fs) (hy : Ints w B d ts) (hz : Ints w C k rs) (hI : ∀ x ∈ fs, I64 x) (hJ : ∀ x ∈ rs, I64 x)
    (hn : fs.length ≤ 100000) (hm : ts.length ≤ 100000) (hl : rs.length ≤ 100000) :
    Calls Try.prog 57 #[.slice A fs.length c, .slice B ts.length d, .slice C rs.length k] w (JoinRes fs ts rs w) := by
  have HX := Lib.hid hx
  have HY := Lib.hid hy
  have HZ := Lib.hid hz
  have HPL := Lib.hid (check_any A B C c d k fs ts rs w hx hy hz hI hJ hn hm hl)
  clear hx hy hz hI hJ
  by_cases h0 : Po.err fs ts rs = 0
  rotate_left
  · have q : (Po.err fs ts rs != 0) = true := by simp [h0]
    have hfin := Lib.hid (show Po.out fs ts rs = [] from if_neg h0)
    clear h0 HX HY HZ
    go_enter Try.func57, Try.ntmps57
    go_wp2_with fail
    refine HPL.out.mono ?_
    rintro e w0 ⟨rfl, hb0⟩
    have HB0 := Lib.hid hb0
    clear hb0 HPL
    go_wp2
    go_ret2
    exact ⟨none, 0, by rw [hfin.out]; rfl, ⟨by rw [hfin.out]; exact Ints.nil _ _ _, fun g o e => by cases e⟩, HB0.out⟩
  · have hE := Lib.hid (Po.err_zero h0)
    have hfin := Lib.hid (show Po.out fs ts rs = Po.rowN fs ts rs ts.length from if_pos h0)
    have hE0 := Lib.hid h0
    rw [h0] at HPL
    clear h0
    have hmk := run_make_row' (P := Try.prog) 22 3 (.int .i64 0) 8 Try.underlying22 infoInt rfl .i64 .i64 ts.length (by omega) (by omega)
    go_enter Try.func57, Try.ntmps57
    go_wp2_with fail
    refine HPL.out.mono ?_
    rintro e w0 ⟨rfl, hb0⟩
    have HB0 := Lib.hid hb0
    clear hb0 HPL
    go_wp2_with fail
    go_loopw [2, 24] (fun v u wr => ∃ i : Nat, i ≤ ts.length ∧ u = .int .i64 i ∧ (∃ A' c', v = .slice A' (rs.drop ((ts.take i).count 0)).length c' ∧ Ints w0 A' c' (rs.drop ((ts.take i).count 0))) ∧ wr.rowIs w0.heap.size 3 ts.length (fun j => if j < i then .int .i64 (Po.el fs ts rs j) else .int .i64 0) ∧ Below w0.heap.size w0 wr) (fun _ u _ => ts.length - (intOf u).toNat)
    case atStart => exact ⟨0, Nat.zero_le _, rfl, ⟨C, k, rfl, HZ.out.grow HB0.out⟩, (World.rowIs_made w0 (.int .i64 0) ts.length 3).congr (fun j _ => by simp), (Below.refl _ _).alloc (Nat.le_refl _) _⟩
    case round =>
      obtain ⟨i, hil, rfl, ⟨A', c', rfl, hrest⟩, hrow, hB⟩ := hrel
      have HB := Lib.hid hB
      have HR := Lib.hid hrest
      have HO := Lib.hid hrow
      have HW := Lib.hid (Below.after' HB0.out hB (Nat.le_refl _))
      by_cases h1 : i < ts.length
      · obtain ⟨g, o, x, rfl, hg, hxi, hct⟩ := (HY.out.grow HW.out).at_ h1
        have hxr := Po.bad_at hE.out.1 hxi
        have hcs := Lib.hid (Po.count_step hxi)
        have hcell := hrow.cell h1
        have hfr := hrow.frozen i
        rw [if_neg (Nat.lt_irrefl i)] at hcell
        have HXI := Lib.hid hxi
        clear hB hrest hrow hxi
        by_cases hx0 : x = 0
        · subst hx0
          have q : decide ((0 : Int) < 0) = false := rfl
          have hrm := Po.room HXI.out
          rw [hE.out.2.2] at hrm
          have hcs2 := Lib.hid (hcs.out.trans (by rw [if_pos rfl]))
          obtain ⟨y, hyr⟩ : ∃ y, rs[(ts.take i).count 0]? = some y := ⟨_, List.getElem?_eq_getElem hrm⟩
          have hdr := drop_at hyr
          have hel := Lib.hid (Po.el_rest (fs := fs) HXI.out hyr)
          have hR2 := HR.out
          rw [hdr] at hR2 ⊢
          obtain ⟨g2, o2, rfl, hg2, hc2, hcap, hnx⟩ := hR2.next
          have hcell2 : wr.cell? ⟨g2, o2, none⟩ = some (.int .i64 y) := (HB.out.cell (p := ⟨g2, o2, none⟩) hg2).trans hc2
          have HN := Lib.hid hnx
          have HS := Lib.hid (row_step HO.out hel.out)
          have HD := Lib.hid (HB.out.setCell (p := ⟨w0.heap.size, i, none⟩) (Nat.le_refl _) (.int .i64 y))
          rw [← hcs2.out] at HN ⊢
          clear HR hc2 hR2 hdr hyr hcs hnx hg2
          generalize hrr : rs.drop ((ts.take (i + 1)).count 0) = rs2 at *
          have HRR := Lib.hid hrr
          clear hrr
          simp only [List.length_cons]
          go_wp2_with fail
          go_region
          all_goals go_wp2
          all_goals go_roundw
          case rel => exact ⟨i + 1, by omega, by go_num, ⟨_, _, by rw [HRR.out], by rw [HRR.out]; exact HN.out⟩, HS.out, HD.out.drew⟩
          case measure => simp [intOf]; omega
        · obtain ⟨m, rfl⟩ : ∃ m : Nat, x = ((m + 1 : Nat) : Int) := ⟨(x - 1).toNat, by omega⟩
          have q : decide ((0 : Int) < ((m + 1 : Nat) : Int)) = true := by simp
          obtain ⟨g2, o2, y, rfl, hg2, hyr, hcell2⟩ := (HX.out.grow HW.out).at_ (i := m) (by omega)
          have ek : ((m + 1 : Nat) : Int) - 1 = (m : Int) := by omega
          have hel := Lib.hid (Po.el_place (rs := rs) HXI.out hyr)
          have hcs2 := Lib.hid (hcs.out.trans (by rw [if_neg hx0, Nat.add_zero]))
          have HS := Lib.hid (row_step HO.out hel.out)
          have HD := Lib.hid (HB.out.setCell (p := ⟨w0.heap.size, i, none⟩) (Nat.le_refl _) (.int .i64 y))
          have hmf : m < fs.length := by omega
          rw [← hcs2.out] at HR ⊢
          generalize hrr : rs.drop ((ts.take (i + 1)).count 0) = rs2 at *
          have HRR := Lib.hid hrr
          clear hrr hcs hyr hxr hx0
          go_wp2_with fail
          go_roundw
          case rel => exact ⟨i + 1, by omega, by go_num, ⟨_, _, by rw [HRR.out], by rw [HRR.out]; exact HR.out⟩, HS.out, HD.out⟩
          case measure => simp [intOf]; omega
      · have hii : i = ts.length := by omega
        subst hii
        have hrd : Ints wr (some ⟨w0.heap.size, 0, none⟩) ts.length (Po.rowN fs ts rs ts.length) := ⟨by rw [Po.rowN_length]; exact Nat.le_refl _, fun _ => ⟨w0.heap.size, 0, rfl, hrow.lt, fun j x hx => by
          obtain ⟨h3, rfl⟩ := Po.rowN_get _ _ _ _ _ _ hx
          rw [Nat.zero_add, hrow.cell h3, if_pos h3]⟩⟩
        have HF := Lib.hid hrd
        clear hrest hrow hrd hB HR HO
        go_wp2
        go_ret2
        exact ⟨_, _, by rw [hfin.out, Po.rowN_length, hE0.out]; rfl, ⟨by rw [hfin.out]; exact HF.out, fun g o e => by cases e; exact HB0.out.size⟩, HW.out⟩
end Go.Proofs.Ytbdkoagagcemcaa.Pp
/- Layer 25 in plain words: what is split by its favorites is joined. No program. -/
namespace Go.Proofs.Ytbdkoagagcemcaa.Pp
open Go.RowKit

theorem Po.count_tokens (fs : List Int) : ∀ l : List Int, (Po.tokens fs l).count 0 = (Po.left fs l).length
  | [] => rfl
  | x :: l => by
    have ih := Po.count_tokens fs l
    unfold Po.tokens Po.left at *
    rw [List.map_cons, List.filter_cons]
    by_cases h : Po.at fs x = 0
    · rw [h, if_pos (by simp)]
      rw [List.length_cons, ← ih]
      exact List.count_cons_self
    · rw [if_neg (by simp [h]), ← ih]
      rw [List.count_cons_of_ne (by simp; omega)]
theorem Po.back_err {fs : List Int} (hn : fs.Nodup) (l : List Int) : Po.err fs (Po.tokens fs l) (Po.left fs l) = 0 := by
  have hb : Po.bad fs (Po.tokens fs l) = false := by
    unfold Po.bad Po.tokens
    rw [List.any_map, List.any_eq_false]
    intro x _
    have := Po.at_le fs x
    simp
    omega
  have ht : Po.twice fs (Po.left fs l) = false := by
    unfold Po.twice
    rw [decide_eq_true hn, Bool.not_true, Bool.false_or, List.any_eq_false]
    intro x hx
    have := of_decide_eq_true (List.mem_filter.1 hx).2
    simp [this]
  unfold Po.err
  rw [hb, ht, Po.count_tokens]
  simp
theorem Po.back_el (fs l : List Int) {i : Nat} {x : Int} (hx : l[i]? = some x) : Po.el fs (Po.tokens fs l) (Po.left fs l) i = x := by
  have htk : (Po.tokens fs l)[i]? = some ((Po.at fs x : Nat) : Int) := by unfold Po.tokens; rw [List.getElem?_map, hx]; rfl
  by_cases h0 : Po.at fs x = 0
  · refine Po.el_rest (by rw [htk, h0]; rfl) ?_
    have e1 : (Po.tokens fs l).take i = Po.tokens fs (l.take i) := by unfold Po.tokens; rw [List.map_take]
    rw [e1, Po.count_tokens]
    have hsp : l = l.take i ++ x :: l.drop (i + 1) := by rw [← drop_at hx, List.take_append_drop]
    have e2 : Po.left fs l = Po.left fs (l.take i) ++ x :: Po.left fs (l.drop (i + 1)) := by
      conv => lhs; rw [hsp]
      unfold Po.left
      rw [List.filter_append, List.filter_cons, if_pos (by simp [h0])]
    rw [e2]
    simp
  · obtain ⟨m, hm⟩ : ∃ m, Po.at fs x = m + 1 := ⟨Po.at fs x - 1, by omega⟩
    have hg := Po.at_get h0
    rw [hm] at htk hg
    exact Po.el_place htk hg
theorem Po.back_out {fs : List Int} (hn : fs.Nodup) (l : List Int) : Po.out fs (Po.tokens fs l) (Po.left fs l) = l := by
  unfold Po.out
  rw [if_pos (Po.back_err hn l)]
  have hlen : (Po.tokens fs l).length = l.length := by unfold Po.tokens; rw [List.length_map]
  apply List.ext_getElem?
  intro j
  by_cases hj : j < l.length
  · have h1 : l[j]? = some l[j] := List.getElem?_eq_getElem hj
    rw [h1]
    unfold Po.rowN
    rw [List.getElem?_map, List.getElem?_range (by omega)]
    show some (Po.el fs (Po.tokens fs l) (Po.left fs l) j) = _
    rw [Po.back_el fs l h1]
  · rw [List.getElem?_eq_none (by rw [Po.rowN_length]; omega), List.getElem?_eq_none (by omega)]
theorem Po.favs_length (l : List Int) : ∀ k, (Po.favs l k).length ≤ k
  | 0 => Nat.le_refl _
  | k + 1 => by
    rw [Po.favs_succ, List.length_append]
    have := Po.favs_length l k
    have h2 : (Po.next l (Po.favs l k) l).toList.length ≤ 1 := by cases Po.next l (Po.favs l k) l <;> simp
    omega
end Go.Proofs.Ytbdkoagagcemcaa.Pp
/- Layer 26 plain: a row in the coding that is shortest, or by its favorites; what is written is read as it was. No program. -/
namespace Go.Proofs.Ytbdkoagagcemcaa
open Pp

/-- The shortest so far, behind one more coding. -/
def shortIn (l : List Int) (best : Option (List UInt8)) (i : Nat) (c : Cod) : Option (List UInt8) :=
  match c.row 0 l with
  | none => best
  | some b => match best with
    | none => some (UInt8.ofNat i :: b)
    | some x => if b.length + 1 < x.length then some (UInt8.ofNat i :: b) else best
def shortTo (l : List Int) : Nat → Option (List UInt8)
  | 0 => none
  | i + 1 => match cods[i]? with
    | none => shortTo l i
    | some c => shortIn l (shortTo l i) i c
def short (l : List Int) : Option (List UInt8) := shortTo l 15
/-- What a short row is. -/
def IsShort (l : List Int) (n : Nat) : Option (List UInt8) → Prop
  | none => ∀ i c, i < n → cods[i]? = some c → c.row 0 l = none
  | some x => (∃ i c b, i < n ∧ cods[i]? = some c ∧ c.row 0 l = some b ∧ x = UInt8.ofNat i :: b) ∧ ∀ i c b, i < n → cods[i]? = some c → c.row 0 l = some b → x.length ≤ b.length + 1
theorem shortTo_is (l : List Int) : ∀ n, IsShort l n (shortTo l n)
  | 0 => fun i c h _ => by omega
  | n + 1 => by
    have ih := shortTo_is l n
    unfold shortTo
    cases hc : cods[n]? with
    | none =>
      dsimp only
      have lt : ∀ i c, i < n + 1 → cods[i]? = some c → i < n := fun i c h1 h2 => by
        by_cases e : i = n
        · subst e; rw [hc] at h2; cases h2
        · omega
      cases hs : shortTo l n with
      | none =>
        rw [hs] at ih
        exact fun i c h1 h2 => ih i c (lt i c h1 h2) h2
      | some x =>
        rw [hs] at ih
        obtain ⟨⟨i, c, b, h1, h2, h3, h4⟩, h5⟩ := ih
        exact ⟨⟨i, c, b, by omega, h2, h3, h4⟩, fun i c b h1 h2 h3 => h5 i c b (lt i c h1 h2) h2 h3⟩
    | some c0 =>
      dsimp only
      unfold shortIn
      have cas : ∀ i c, i < n + 1 → cods[i]? = some c → i < n ∨ (i = n ∧ c = c0) := fun i c h1 h2 => by
        by_cases e : i = n
        · subst e; rw [hc] at h2; cases h2; exact .inr ⟨rfl, rfl⟩
        · exact .inl (by omega)
      cases hr : c0.row 0 l with
      | none =>
        dsimp only
        cases hs : shortTo l n with
        | none =>
          rw [hs] at ih
          intro i c h1 h2
          rcases cas i c h1 h2 with h | ⟨rfl, rfl⟩
          · exact ih i c h h2
          · exact hr
        | some x =>
          rw [hs] at ih
          obtain ⟨⟨i, c, b, h1, h2, h3, h4⟩, h5⟩ := ih
          refine ⟨⟨i, c, b, by omega, h2, h3, h4⟩, fun i c b h1 h2 h3 => ?_⟩
          rcases cas i c h1 h2 with h | ⟨rfl, rfl⟩
          · exact h5 i c b h h2 h3
          · rw [hr] at h3; cases h3
      | some b0 =>
        dsimp only
        cases hs : shortTo l n with
        | none =>
          rw [hs] at ih
          dsimp only
          refine ⟨⟨n, c0, b0, by omega, hc, hr, rfl⟩, fun i c b h1 h2 h3 => ?_⟩
          rcases cas i c h1 h2 with h | ⟨rfl, rfl⟩
          · rw [ih i c h h2] at h3; cases h3
          · rw [hr] at h3; cases h3; simp
        | some x =>
          rw [hs] at ih
          dsimp only
          obtain ⟨⟨i, c, b, h1, h2, h3, h4⟩, h5⟩ := ih
          split
          · rename_i hlt
            refine ⟨⟨n, c0, b0, by omega, hc, hr, rfl⟩, fun i c b h1 h2 h3 => ?_⟩
            rcases cas i c h1 h2 with h | ⟨rfl, rfl⟩
            · have := h5 i c b h h2 h3
              simp only [List.length_cons]
              omega
            · rw [hr] at h3; cases h3; simp
          · rename_i hlt
            refine ⟨⟨i, c, b, by omega, h2, h3, h4⟩, fun i c b h1 h2 h3 => ?_⟩
            rcases cas i c h1 h2 with h | ⟨rfl, rfl⟩
            · exact h5 i c b h h2 h3
            · rw [hr] at h3; cases h3; omega
/-- A row by its favorites. -/
def fav (l : List Int) (many : Nat) : Option (List UInt8) :=
  if Po.favs l many = [] then none else
    match short (Po.favs l many) with
    | none => none
    | some a => match short (Po.tokens (Po.favs l many) l) with
      | none => none
      | some b => match short (Po.left (Po.favs l many) l) with
        | none => none
        | some c => some (255 :: UInt8.ofNat (Po.favs l many).length :: (a ++ b ++ c))
def better (best : List UInt8) : Option (List UInt8) → List UInt8
  | none => best
  | some b => if b.length < best.length then b else best
/-- A band's bytes. -/
def bandW (l : List Int) : Option (List UInt8) := (short l).map fun s => if l.length < 8 then s else better (better (better s (fav l 1)) (fav l 3)) (fav l 15)
def joinR (n : Nat) : List UInt8 → Except Int (List Int × List UInt8)
  | [] => .error 6
  | m :: r => if m.toNat < 1 ∨ 15 < m.toNat then .error 2 else
    match nextR m.toNat r with
    | .error e => .error e
    | .ok (fs, r1) => match nextR n r1 with
      | .error e => .error e
      | .ok (ts, r2) => match nextR (ts.count 0) r2 with
        | .error e => .error e
        | .ok (rs, r3) => if Po.err fs ts rs = 0 then .ok (Po.out fs ts rs, r3) else .error (Po.err fs ts rs)
/-- A band that bytes begin with. -/
def bandR (n : Nat) : List UInt8 → Except Int (List Int × List UInt8)
  | [] => .error 6
  | k :: r => if k = 255 then joinR n r else plainR k.toNat n r
theorem nextR_cons (n : Nat) (k : UInt8) (r : List UInt8) : nextR n (k :: r) = plainR k.toNat n r := rfl
theorem bandR_join (n : Nat) (r : List UInt8) : bandR n (255 :: r) = joinR n r := rfl
theorem bandR_cons {n : Nat} {k : UInt8} (hk : k ≠ 255) (r : List UInt8) : bandR n (k :: r) = plainR k.toNat n r := by
  show (if k = 255 then joinR n r else plainR k.toNat n r) = _
  rw [if_neg hk]
theorem joinR_cons {n : Nat} {m : UInt8} (hm : ¬ (m.toNat < 1 ∨ 15 < m.toNat)) (r : List UInt8) : joinR n (m :: r) = (match nextR m.toNat r with
    | .error e => .error e
    | .ok (fs, r1) => match nextR n r1 with
      | .error e => .error e
      | .ok (ts, r2) => match nextR (ts.count 0) r2 with
        | .error e => .error e
        | .ok (rs, r3) => if Po.err fs ts rs = 0 then .ok (Po.out fs ts rs, r3) else .error (Po.err fs ts rs)) := by
  show (if m.toNat < 1 ∨ 15 < m.toNat then Except.error 2 else _) = _
  rw [if_neg hm]
theorem cods_len : cods.length = 15 := rfl
theorem next_short {l : List Int} {x : List UInt8} (h : short l = some x) (r : List UInt8) : ∃ k b, x = UInt8.ofNat k :: b ∧ k < 15 ∧ nextR l.length (x ++ r) = .ok (l, r) ∧ plainR k l.length (b ++ r) = .ok (l, r) := by
  have hs := shortTo_is l 15
  rw [show shortTo l 15 = some x from h] at hs
  obtain ⟨⟨i, c, b, h1, h2, h3, h4⟩, _⟩ := hs
  have hp : plainR i l.length (b ++ r) = .ok (l, r) := by
    unfold plainR
    rw [h2]
    dsimp only
    have hlen := c.row_len l 0 b h3
    rw [if_neg (by rw [List.length_append]; omega)]
    exact c.read_row (cods_ok c (List.mem_of_getElem? h2)) l 0 b r h3
  refine ⟨i, b, h4, h1, ?_, hp⟩
  rw [h4, List.cons_append, nextR_cons, ofNat_lt (by omega)]
  exact hp
theorem favs_bound (l : List Int) (k : Nat) (hk : k ≤ 15) : (Po.favs l k).length ≤ 15 := Nat.le_trans (Po.favs_length l k) hk
theorem band_fav {l : List Int} {many : Nat} (hm : many ≤ 15) {x : List UInt8} (h : fav l many = some x) (r : List UInt8) : bandR l.length (x ++ r) = .ok (l, r) := by
  unfold fav at h
  split at h
  · cases h
  · rename_i hne
    have hnd := (Po.favs_facts l many).1
    have hfl := favs_bound l many hm
    generalize Po.favs l many = fs at *
    cases ha : short fs with
    | none => rw [ha] at h; cases h
    | some a =>
      rw [ha] at h
      cases hb : short (Po.tokens fs l) with
      | none => rw [hb] at h; cases h
      | some b =>
        rw [hb] at h
        cases hc : short (Po.left fs l) with
        | none => rw [hc] at h; cases h
        | some c =>
          rw [hc] at h
          simp only [Option.some.injEq] at h
          have hpos : 1 ≤ fs.length := List.length_pos_iff.2 hne
          rw [← h]
          show bandR l.length (255 :: UInt8.ofNat fs.length :: (a ++ b ++ c) ++ r) = _
          have e : (255 : UInt8) :: UInt8.ofNat fs.length :: (a ++ b ++ c) ++ r = 255 :: UInt8.ofNat fs.length :: (a ++ (b ++ (c ++ r))) := by simp [List.append_assoc]
          rw [e, bandR_join, joinR_cons (by rw [ofNat_lt (by omega)]; omega), ofNat_lt (by omega)]
          obtain ⟨_, _, _, _, n1, _⟩ := next_short ha (b ++ (c ++ r))
          obtain ⟨_, _, _, _, n2, _⟩ := next_short hb (c ++ r)
          obtain ⟨_, _, _, _, n3, _⟩ := next_short hc r
          rw [n1]
          dsimp only
          rw [show l.length = (Po.tokens fs l).length from by unfold Po.tokens; rw [List.length_map], n2]
          dsimp only
          rw [Po.count_tokens, n3]
          dsimp only
          rw [if_pos (Po.back_err hnd l), Po.back_out hnd l]
/-- What is written is read as it was. -/
theorem band_back {l : List Int} {x : List UInt8} (h : bandW l = some x) (r : List UInt8) : bandR l.length (x ++ r) = .ok (l, r) := by
  unfold bandW at h
  cases hs : short l with
  | none => rw [hs] at h; cases h
  | some s =>
    rw [hs] at h
    simp only [Option.map_some, Option.some.injEq] at h
    have h0 : bandR l.length (s ++ r) = .ok (l, r) := by
      obtain ⟨k, b, rfl, hk, _, h2⟩ := next_short hs r
      have hne : UInt8.ofNat k ≠ 255 := fun e => by
        have h3 := congrArg UInt8.toNat e
        rw [ofNat_lt (by omega)] at h3
        have h4 : (255 : UInt8).toNat = 255 := rfl
        omega
      rw [List.cons_append, bandR_cons hne, ofNat_lt (by omega)]
      exact h2
    have hb : ∀ (best : List UInt8) (m : Nat), m ≤ 15 → bandR l.length (best ++ r) = .ok (l, r) → bandR l.length (better best (fav l m) ++ r) = .ok (l, r) := fun best m hm hbst => by
      cases hf : fav l m with
      | none => exact hbst
      | some y =>
        unfold better
        dsimp only
        split
        · exact band_fav hm hf r
        · exact hbst
    split at h
    · rw [← h]; exact h0
    · rw [← h]
      exact hb _ 15 (by decide) (hb _ 3 (by decide) (hb _ 1 (by decide) h0))
theorem better_le (best : List UInt8) (o : Option (List UInt8)) : (better best o).length ≤ best.length := by
  unfold better
  cases o with
  | none => exact Nat.le_refl _
  | some b => dsimp only; split <;> omega
/-- It is no longer than by any coding alone. -/
theorem band_short {l : List Int} {x : List UInt8} (h : bandW l = some x) {i : Nat} {c : Cod} {b : List UInt8} (hc : cods[i]? = some c) (hr : c.row 0 l = some b) : x.length ≤ b.length + 1 := by
  unfold bandW at h
  cases hs : short l with
  | none => rw [hs] at h; cases h
  | some s =>
    rw [hs] at h
    simp only [Option.map_some, Option.some.injEq] at h
    have h1 := shortTo_is l 15
    rw [show shortTo l 15 = some s from hs] at h1
    have h2 := h1.2 i c b (by have := (List.getElem?_eq_some_iff.1 hc).1; rw [cods_len] at this; exact this) hc hr
    split at h
    · rw [← h]; exact h2
    · rw [← h]
      exact Nat.le_trans (better_le _ _) (Nat.le_trans (better_le _ _) (Nat.le_trans (better_le _ _) h2))
theorem row_bound (c : Cod) : ∀ (l : List Int) (last : Int) (b : List UInt8), c.row last l = some b → ∀ v ∈ l, boundI c.s v = true
  | [], _, _, _, v, hv => by cases hv
  | x :: l, last, b, h, v, hv => by
    unfold Cod.row at h
    split at h
    · rename_i hb
      cases hr : c.row x l with
      | none => rw [hr] at h; cases h
      | some b' =>
        rcases List.mem_cons.1 hv with rfl | hv
        · exact hb.1
        · exact row_bound c l x b' hr v hv
    · cases h
theorem row_some (c : Cod) (hd : c.d = 0) (hf : ∀ v, boundI c.s v = true → c.fits (plainI c.s v) = true) : ∀ (l : List Int) (last : Int), (∀ v ∈ l, boundI c.s v = true) → ∃ b, c.row last l = some b
  | [], _, _ => ⟨[], rfl⟩
  | x :: l, last, h => by
    obtain ⟨b, hb⟩ := row_some c hd hf l x fun v hv => h v (List.mem_cons_of_mem _ hv)
    have hx := h x (List.mem_cons_self ..)
    have e : c.diff last x = x := by unfold Cod.diff; rw [if_neg (by omega)]
    unfold Cod.row
    rw [e, if_pos ⟨hx, hf x hx⟩, hb]
    exact ⟨_, rfl⟩
/-- May numbers stand in a row? -/
def boundsI (l : List Int) : Bool := l.all (boundI 0) || l.all (boundI 1)
theorem short_none {l : List Int} (h : short l = none) : boundsI l = false := by
  have hs := shortTo_is l 15
  rw [show shortTo l 15 = none from h] at hs
  cases hb : boundsI l with
  | false => rfl
  | true =>
    exfalso
    unfold boundsI at hb
    rw [Bool.or_eq_true, List.all_eq_true, List.all_eq_true] at hb
    rcases hb with hb | hb
    · obtain ⟨b, hr⟩ := row_some ⟨5, 64, 0, 0⟩ rfl (fun v hv => by
        unfold boundI at hv
        simp only [if_true] at hv
        have := of_decide_eq_true hv
        unfold Cod.fits plainI Cod.reach
        rw [show min (reachU 64 (5 - 1)) 4294967296 = 4294967296 from by decide]
        exact decide_eq_true (by simp only [if_true]; omega)) l 0 hb
      rw [hs 0 ⟨5, 64, 0, 0⟩ (by decide) rfl] at hr
      cases hr
    · obtain ⟨b, hr⟩ := row_some ⟨5, 64, 1, 0⟩ rfl (fun v hv => by
        unfold boundI at hv
        simp only [show ¬ (1 : Nat) = 0 from by decide, if_false] at hv
        have := of_decide_eq_true hv
        unfold Cod.fits plainI Cod.reach
        rw [show min (reachU 64 (5 - 1)) 4294967296 = 4294967296 from by decide]
        simp only [show ¬ (1 : Nat) = 0 from by decide, if_false, show (2 : Int) ^ 1 = 2 from rfl]
        refine decide_eq_true ?_
        by_cases hv0 : v < 0
        · simp only [hv0, if_true]; omega
        · simp only [hv0, if_false]; omega) l 0 hb
      rw [hs 1 ⟨5, 64, 1, 0⟩ (by decide) rfl] at hr
      cases hr
theorem short_some {l : List Int} {x : List UInt8} (h : short l = some x) : boundsI l = true := by
  have hs := shortTo_is l 15
  rw [show shortTo l 15 = some x from h] at hs
  obtain ⟨⟨i, c, b, _, _, h3, _⟩, _⟩ := hs
  have hb := row_bound c l 0 b h3
  unfold boundsI
  rw [Bool.or_eq_true, List.all_eq_true, List.all_eq_true]
  by_cases h0 : c.s = 0
  · exact .inl fun v hv => by have := hb v hv; rwa [h0] at this
  · refine .inr fun v hv => ?_
    have := hb v hv
    unfold boundI at this ⊢
    rw [if_neg h0] at this
    rw [if_neg (by decide)]
    exact this
theorem short_bounds (l : List Int) : (short l).isSome = boundsI l := by
  cases h : short l with
  | none => rw [short_none h]; rfl
  | some x => rw [short_some h]; rfl
theorem bandW_some (l : List Int) : (bandW l).isSome = boundsI l := by
  unfold bandW
  rw [← short_bounds]
  cases short l <;> rfl
end Go.Proofs.Ytbdkoagagcemcaa

/- Layer 26 plain: how long a band is; the law's reading is the program's. No program. -/
namespace Go.Proofs.Ytbdkoagagcemcaa
open Pp

theorem putU_le (h : Nat) : ∀ (k u : Nat), (putU h k u).length ≤ k + 1
  | 0, u => by simp [putU]
  | k + 1, u => by
    have := putU_le h k ((u - (256 - h)) / h)
    unfold putU
    split
    · simp
    · simp only [List.length_cons]; omega
theorem row_le (c : Cod) (hc : 1 ≤ c.b) : ∀ (l : List Int) (last : Int) (b : List UInt8), c.row last l = some b → b.length ≤ c.b * l.length
  | [], last, b, h => by
    simp only [Cod.row, Option.some.injEq] at h
    subst h
    simp
  | v :: l, last, b, h => by
    unfold Cod.row at h
    split at h
    · cases hr : c.row v l with
      | none => rw [hr] at h; cases h
      | some b' =>
        rw [hr] at h
        simp only [Option.map_some, Option.some.injEq] at h
        subst h
        have h1 := row_le c hc l v b' hr
        have h2 := putU_le c.h (c.b - 1) (plainI c.s (c.diff last v)).toNat
        rw [List.length_append, List.length_cons, Nat.mul_add, Nat.mul_one]
        omega
    · cases h
/-- A row in bounds is written by one of the first two codings. -/
theorem row_first {l : List Int} (hb : boundsI l = true) : ∃ (i : Nat) (c : Cod) (b : List UInt8), cods[i]? = some c ∧ c.b = 5 ∧ c.row 0 l = some b := by
  unfold boundsI at hb
  rw [Bool.or_eq_true, List.all_eq_true, List.all_eq_true] at hb
  rcases hb with hb | hb
  · obtain ⟨b, hr⟩ := row_some ⟨5, 64, 0, 0⟩ rfl (fun v hv => by
      unfold boundI at hv
      simp only [if_true] at hv
      have := of_decide_eq_true hv
      unfold Cod.fits plainI Cod.reach
      rw [show min (reachU 64 (5 - 1)) 4294967296 = 4294967296 from by decide]
      exact decide_eq_true (by simp only [if_true]; omega)) l 0 hb
    exact ⟨0, _, b, rfl, rfl, hr⟩
  · obtain ⟨b, hr⟩ := row_some ⟨5, 64, 1, 0⟩ rfl (fun v hv => by
      unfold boundI at hv
      simp only [show ¬ (1 : Nat) = 0 from by decide, if_false] at hv
      have := of_decide_eq_true hv
      unfold Cod.fits plainI Cod.reach
      rw [show min (reachU 64 (5 - 1)) 4294967296 = 4294967296 from by decide]
      simp only [show ¬ (1 : Nat) = 0 from by decide, if_false, show (2 : Int) ^ 1 = 2 from rfl]
      refine decide_eq_true ?_
      by_cases hv0 : v < 0
      · simp only [hv0, if_true]; omega
      · simp only [hv0, if_false]; omega) l 0 hb
    exact ⟨1, _, b, rfl, rfl, hr⟩
theorem bandW_len {l : List Int} {x : List UInt8} (h : bandW l = some x) : x.length ≤ 5 * l.length + 1 := by
  have hb : boundsI l = true := by
    rw [← bandW_some, h]
    rfl
  obtain ⟨i, c, b, h1, h2, h3⟩ := row_first hb
  have h4 := band_short h h1 h3
  have h5 := row_le c (by omega) l 0 b h3
  rw [h2] at h5
  omega
/-- What is read is no more than its bytes. -/
theorem read_len (c : Cod) : ∀ (n : Nat) (last : Int) (r : List UInt8) (q : List Int × List UInt8), c.read n last r = .ok q → q.1.length = n
  | 0, last, r, q, h => by
    simp only [Cod.read, Except.ok.injEq] at h
    subst h
    rfl
  | n + 1, last, r, q, h => by
    unfold Cod.read at h
    cases hg : c.get r with
    | error e => rw [hg] at h; cases h
    | ok p =>
      obtain ⟨v, r1⟩ := p
      rw [hg] at h
      dsimp only at h
      split at h
      · cases hr : c.read n (c.sum last v) r1 with
        | error e => rw [hr] at h; cases h
        | ok p =>
          obtain ⟨vs, r2⟩ := p
          rw [hr] at h
          simp only [Except.ok.injEq] at h
          subst h
          have := read_len c n _ _ _ hr
          simp only [List.length_cons]
          dsimp only at this
          omega
      · cases h
end Go.Proofs.Ytbdkoagagcemcaa

/- Plain laws on masks of int and of uint16; no program. -/
namespace Go.Proofs.Ytbdkoagagcemcaa
open Go.RowKit

theorem i64_mask (k : Nat) (hk : k ≤ 62) (n : Int) : bits .and .i64 n ((2 ^ k - 1 : Nat) : Int) = n % ((2 ^ k : Nat) : Int) := by
  have hp : 0 < 2 ^ k := Nat.two_pow_pos k
  have hb : (2 ^ k : Nat) ≤ 2 ^ 62 := Nat.pow_le_pow_right (by decide) hk
  have h1 : (BitVec.ofInt 64 ((2 ^ k - 1 : Nat) : Int)).toNat = 2 ^ k - 1 := by
    rw [BitVec.ofInt_natCast, BitVec.toNat_ofNat]; apply Nat.mod_eq_of_lt; have : (2:Nat) ^ 62 < 2 ^ 64 := by decide
    omega
  have key : (BitVec.ofInt 64 n &&& BitVec.ofInt 64 ((2 ^ k - 1 : Nat) : Int)).toNat = (n % ((2 ^ 64 : Nat) : Int)).toNat % 2 ^ k := by
    rw [BitVec.toNat_and, BitVec.toNat_ofInt, h1, Nat.and_two_pow_sub_one_eq_mod]
  show IntKind.i64.wrap ((BitVec.ofInt 64 n &&& BitVec.ofInt 64 ((2 ^ k - 1 : Nat) : Int)).toNat : Nat) = _
  rw [key, IntKind.wrap_i64]
  have hd : (2 ^ k : Nat) ∣ 2 ^ 64 := Nat.pow_dvd_pow 2 (by omega)
  have hnn : 0 ≤ n % ((2 ^ 64 : Nat) : Int) := Int.emod_nonneg _ (by decide)
  have e1 : (((n % ((2 ^ 64 : Nat) : Int)).toNat % 2 ^ k : Nat) : Int) = n % ((2 ^ k : Nat) : Int) := by
    rw [Int.natCast_emod, Int.toNat_of_nonneg hnn]
    exact Int.emod_emod_of_dvd n (by exact_mod_cast hd)
  rw [e1]
  have l1 : 0 ≤ n % ((2 ^ k : Nat) : Int) := Int.emod_nonneg _ (by omega)
  have l2 : n % ((2 ^ k : Nat) : Int) < ((2 ^ k : Nat) : Int) := Int.emod_lt_of_pos _ (by omega)
  have l3 : ((2 ^ k : Nat) : Int) ≤ 4611686018427387904 := by
    have : ((2 ^ k : Nat) : Int) ≤ ((2 ^ 62 : Nat) : Int) := by exact_mod_cast hb
    simpa using this
  generalize n % ((2 ^ k : Nat) : Int) = r at *
  generalize ((2 ^ k : Nat) : Int) = q at *
  omega
theorem i64_and1 (n : Int) : bits .and .i64 n 1 = n % 2 := i64_mask 1 (by decide) n
theorem i64_and3 (n : Int) : bits .and .i64 n 3 = n % 4 := i64_mask 2 (by decide) n
theorem i64_and7 (n : Int) : bits .and .i64 n 7 = n % 8 := i64_mask 3 (by decide) n
theorem i64_and255 (n : Int) : bits .and .i64 n 255 = n % 256 := i64_mask 8 (by decide) n

theorem wraps_u16 (n : Int) (h₀ : 0 ≤ n) (h₁ : n < 2 ^ 16) : IntKind.u16.wrap n = n := by rw [IntKind.wrap_u16]; omega
theorem u16_and15 (x : Int) (h₀ : 0 ≤ x) (h₁ : x < 65536) : bits .and .u16 x 15 = x % 16 := bits_mask .u16 16 (by decide) wraps_u16 4 (by decide) x h₀ h₁
theorem u16_and31 (x : Int) (h₀ : 0 ≤ x) (h₁ : x < 65536) : bits .and .u16 x 31 = x % 32 := bits_mask .u16 16 (by decide) wraps_u16 5 (by decide) x h₀ h₁
theorem u16_and63 (x : Int) (h₀ : 0 ≤ x) (h₁ : x < 65536) : bits .and .u16 x 63 = x % 64 := bits_mask .u16 16 (by decide) wraps_u16 6 (by decide) x h₀ h₁
theorem wraps_i64 (n : Int) (h₀ : 0 ≤ n) (h₁ : n < 2 ^ 62) : IntKind.i64.wrap n = n := by rw [IntKind.wrap_i64]; omega
/-- 'x | y' where x is a multiple of 2^i and y below it. -/
theorem i64_or (i : Nat) (x y : Int) (hx₀ : 0 ≤ x) (hx : x % 2 ^ i = 0) (hx₁ : x < 2 ^ 62) (hy₀ : 0 ≤ y) (hy : y < 2 ^ i) (hy₁ : y < 2 ^ 62) : bits .or .i64 x y = x + y :=
  bits_join .i64 62 (by decide) wraps_i64 i x y hx₀ hx hx₁ hy₀ hy hy₁
end Go.Proofs.Ytbdkoagagcemcaa

/- The walks of layer 24: whether a coding may be, its reach, a number's plain one and a plain one's number. -/
namespace Go.Proofs.Ytbdkoagagcemcaa
open Go.RowKit

/-- A coding's value. -/
def Cod.val (c : Cod) : Value := .agg #[.int .i64 c.b, .int .i64 c.h, .int .i64 c.s, .int .i64 c.d]
set_option maxRecDepth 100000 in
theorem right_any (c : Cod) (hc : c.ok) (w : World) : Calls Try.prog 67 #[c.val] w fun ex y => ex = .returned (.bool true) ∧ Below w.heap.size w y := by
  obtain ⟨h1, h2, h3, h4, h5, h6, h7, h8⟩ := hc
  obtain ⟨B, H, S, D⟩ := c
  dsimp only at *
  unfold Cod.val
  have p1 : decide ((B : Int) < 1) = false := decide_eq_false (by omega)
  have p2 : decide ((5 : Int) < (B : Int)) = false := decide_eq_false (by omega)
  have p3 : decide ((H : Int) < 2) = false := decide_eq_false (by omega)
  have p4 : decide ((256 : Int) < (H : Int)) = false := decide_eq_false (by omega)
  have p5 : decide ((S : Int) < 0) = false := decide_eq_false (by omega)
  have p6 : decide ((2 : Int) < (S : Int)) = false := decide_eq_false (by omega)
  obtain rfl | rfl : D = 0 ∨ D = 1 := by omega
  all_goals
    by_cases q1 : 1 < B
    · have r1 : decide ((1 : Int) < (B : Int)) = true := decide_eq_true (by omega)
      by_cases q2 : B < 5
      · have r2 : decide ((B : Int) < 5) = true := decide_eq_true (by omega)
        clear h7 h8
        go_enter Try.func67, Try.ntmps67
        go_wp2
        go_ret
        exact ⟨rfl, by first | exact Below.refl _ _ | exact (Below.refl _ _).alloc (Nat.le_refl _) _⟩
      · have r2 : decide ((B : Int) < 5) = false := decide_eq_false (by omega)
        have r3 : decide ((H : Int) < 256) = true := decide_eq_true (by omega)
        clear h7 h8
        go_enter Try.func67, Try.ntmps67
        go_wp2
        go_ret
        exact ⟨rfl, by first | exact Below.refl _ _ | exact (Below.refl _ _).alloc (Nat.le_refl _) _⟩
    · obtain rfl : H = 256 := by omega
      obtain rfl : B = 1 := by omega
      clear h7 h8
      go_enter Try.func67, Try.ntmps67
      go_wp2
      go_ret
      exact ⟨rfl, by first | exact Below.refl _ _ | exact (Below.refl _ _).alloc (Nat.le_refl _) _⟩
theorem reachU_pos (h : Nat) : ∀ k, h ≤ 256 → 1 ≤ reachU h k
  | 0, _ => by simp [reachU]
  | k + 1, hh => by
    have := reachU_pos h k hh
    have h2 : h * 1 ≤ h * reachU h k := Nat.mul_le_mul_left _ this
    unfold reachU
    omega
theorem reachU_le (h : Nat) (hh : h ≤ 256) : ∀ k, reachU h k ≤ 256 ^ (k + 1)
  | 0 => by simp [reachU]
  | k + 1 => by
    have h1 := reachU_pos h k hh
    have h2 := reachU_le h hh k
    have h3 : h * (reachU h k - 1) ≤ 256 * (reachU h k - 1) := Nat.mul_le_mul_right _ hh
    have h4 : h * (reachU h k - 1) = h * reachU h k - h := by rw [Nat.mul_sub, Nat.mul_one]
    have h5 : h * 1 ≤ h * reachU h k := Nat.mul_le_mul_left _ h1
    unfold reachU
    rw [Nat.pow_succ]
    omega
set_option maxRecDepth 100000 in
theorem reach_any (c : Cod) (hc : c.ok) (w : World) : Calls Try.prog 94 #[c.val] w fun ex y => ex = .returned (.int .i64 (c.reach : Int)) ∧ Below w.heap.size w y := by
  have HR := Lib.hid (fun w => right_any c hc w)
  have hh : c.h ≤ 256 := hc.2.2.2.1
  have h1 : 1 ≤ c.b := hc.1
  have h5 : c.b ≤ 5 := hc.2.1
  have hb := Lib.hid (fun k (hk : k ≤ 4) => Nat.le_trans (reachU_le c.h hh k) (Nat.pow_le_pow_right (by decide : 0 < 256) (by omega : k + 1 ≤ 5)))
  have hfin := Lib.hid (show c.reach = min (reachU c.h (c.b - 1)) 4294967296 from rfl)
  unfold Cod.val at *
  generalize c.b = B at *
  generalize c.h = H at *
  generalize c.s = S at *
  generalize c.d = D at *
  generalize c.reach = R at *
  clear hc c
  go_enter Try.func94, Try.ntmps94
  go_wp2_with fail
  refine (HR.out _).mono ?_
  rintro ex y ⟨rfl, hb1⟩
  have e1 := (blk_facts (hb1.block w.heap.size (by simp) |>.trans (heap_alloc_new w _))).1
  have c0 := e1 0
  have c1 := e1 1
  have hz : w.heap.size < y.heap.size := Nat.lt_of_lt_of_le (by simp) hb1.size
  have HB := Lib.hid (Below.after' ((Below.refl w.heap.size w).alloc (Nat.le_refl _) _) hb1 (by simp))
  clear hb1 e1 HR
  go_wp2_with fail
  go_loop [3, 10] (fun u t => ∃ i : Nat, i ≤ B - 1 ∧ t = .int .i64 i ∧ u = .int .i64 (reachU H i : Int)) (fun _ t => B - (intOf t).toNat)
  case atStart => exact ⟨0, Nat.zero_le _, rfl, rfl⟩
  case round =>
    obtain ⟨i, hi, rfl, rfl⟩ := hrel
    have hb0 := hb.out i (by omega)
    have eB : ((B : Int) - 1) = ((B - 1 : Nat) : Int) := by omega
    by_cases h2 : i < B - 1
    · have p1 : decide (i < B - 1) = true := decide_eq_true h2
      have hb2 := hb.out (i + 1) (by omega)
      have hm := Lib.hid (show (256 - (H : Int)) + (H : Int) * (reachU H i : Int) = (reachU H (i + 1) : Int) by
        rw [show reachU H (i + 1) = 256 - H + H * reachU H i from rfl, Int.natCast_add, Int.natCast_mul, Int.ofNat_sub hh]; rfl)
      have hp0 : 0 ≤ (H : Int) * (reachU H i : Int) := Int.mul_nonneg (by omega) (by omega)
      have hp1 : (H : Int) * (reachU H i : Int) ≤ 2000000000000 := by have := hm.out; omega
      have q1 : decide ((i : Int) < (B : Int) - 1) = true := decide_eq_true (by omega)
      have hq := Lib.hid hb2
      clear hb2 eB
      generalize hr2 : reachU H (i + 1) = r2 at *
      have HR2 := Lib.hid hr2
      clear hr2
      go_wp2_with fail
      go_round
      case rel => exact ⟨i + 1, by omega, by go_num, by rw [hm.out, HR2.out]⟩
      case measure => simp [intOf]; omega
    · obtain rfl : i = B - 1 := by omega
      have q1 : decide (((B - 1 : Nat) : Int) < (B : Int) - 1) = false := decide_eq_false (by omega)
      clear eB h2 hi
      have hm := hfin.out
      go_wp2_with fail
      all_goals go_ret
      all_goals exact ⟨ret_int (by omega), HB.out⟩
end Go.Proofs.Ytbdkoagagcemcaa

/- Layer 24 plain: a number's plain one as it is reckoned; reading told from behind. No program. -/
namespace Go.Proofs.Ytbdkoagagcemcaa

/-- A number's plain one, -1 far out of reach. -/
def plainP (s : Nat) (v : Int) : Int := if v < -8589934592 ∨ 8589934592 < v then -1 else plainI s v
theorem plainP_fits (c : Cod) (hs : c.s ≤ 2) (v : Int) : c.fits (plainP c.s v) = c.fits (plainI c.s v) := by
  unfold plainP
  split
  · rename_i h
    have hr : (c.reach : Int) ≤ 4294967296 := by unfold Cod.reach; omega
    unfold Cod.fits
    rw [decide_eq_false (by omega)]
    symm
    apply decide_eq_false
    unfold plainI
    obtain h0 | h1 | h2 : c.s = 0 ∨ c.s = 1 ∨ c.s = 2 := by omega
    · rw [if_pos h0]; omega
    · simp only [h1, show ¬ (1 : Nat) = 0 from by decide, if_false, show (2 : Int) ^ 1 = 2 from rfl]
      split <;> omega
    · simp only [h2, show ¬ (2 : Nat) = 0 from by decide, if_false, show (2 : Int) ^ 2 = 4 from rfl]
      split <;> omega
  · rfl
theorem plainP_eq {s : Nat} {v : Int} (h1 : -8589934592 ≤ v) (h2 : v ≤ 8589934592) : plainP s v = plainI s v := by
  unfold plainP
  rw [if_neg (by omega)]
theorem boundI_in {s : Nat} {v : Int} (h : boundI s v = true) : -2147483648 ≤ v ∧ v < 4294967296 := by
  unfold boundI at h
  split at h
  · have := of_decide_eq_true h; omega
  · have := of_decide_eq_true h; omega
theorem roundI_in (s : Nat) (v : Int) : -2147483648 ≤ roundI s v ∧ roundI s v < 4294967296 := boundI_in (round_bound s v)
theorem plainI_in {s : Nat} (hs : s ≤ 2) {v : Int} (h1 : -8589934592 ≤ v) (h2 : v ≤ 8589934592) : -8589934592 ≤ plainI s v ∧ plainI s v ≤ 68719476736 := by
  unfold plainI
  obtain rfl | rfl | rfl : s = 0 ∨ s = 1 ∨ s = 2 := by omega
  · simp only [if_true]; omega
  · simp only [show ¬ (1 : Nat) = 0 from by decide, if_false, show (2 : Int) ^ 1 = 2 from rfl]
    split <;> omega
  · simp only [show ¬ (2 : Nat) = 0 from by decide, if_false, show (2 : Int) ^ 2 = 4 from rfl]
    split <;> omega
theorem plainP_in {s : Nat} (hs : s ≤ 2) (v : Int) : -8589934592 ≤ plainP s v ∧ plainP s v ≤ 68719476736 := by
  unfold plainP
  split
  · omega
  · exact plainI_in hs (by omega) (by omega)
/-- What is read, behind what was. -/
def pre (vs : List Int) : Except Int (List Int × List UInt8) → Except Int (List Int × List UInt8)
  | .error e => .error e
  | .ok p => .ok (vs ++ p.1, p.2)
theorem pre_nil (x : Except Int (List Int × List UInt8)) : pre [] x = x := by cases x <;> rfl
theorem pre_pre (a b : List Int) (x : Except Int (List Int × List UInt8)) : pre a (pre b x) = pre (a ++ b) x := by
  cases x with
  | error e => rfl
  | ok p => simp [pre]
theorem Cod.read_succ (c : Cod) (n : Nat) (last : Int) (l : List UInt8) : c.read (n + 1) last l = match c.get l with
    | .error e => .error e
    | .ok p => if boundI c.s p.1 = true then pre [c.sum last p.1] (c.read n (c.sum last p.1) p.2) else .error 5 := by
  conv => lhs; unfold Cod.read
  cases c.get l with
  | error e => rfl
  | ok p =>
    obtain ⟨v, r⟩ := p
    dsimp only
    split
    · cases c.read n (c.sum last v) r with
      | error e => rfl
      | ok q => rfl
    · rfl
theorem Cod.read_bad (c : Cod) (n : Nat) (last : Int) {l : List UInt8} {e : Int} (h : c.get l = .error e) : c.read (n + 1) last l = .error e := by
  rw [Cod.read_succ, h]
theorem Cod.read_out (c : Cod) (n : Nat) (last : Int) {l : List UInt8} {v : Int} {r : List UInt8} (h : c.get l = .ok (v, r)) (hb : boundI c.s v = false) : c.read (n + 1) last l = .error 5 := by
  rw [Cod.read_succ, h]
  dsimp only
  rw [if_neg (by rw [hb]; decide)]
theorem Cod.read_ok (c : Cod) (n : Nat) (last : Int) {l : List UInt8} {v : Int} {r : List UInt8} (h : c.get l = .ok (v, r)) (hb : boundI c.s v = true) : c.read (n + 1) last l = pre [c.sum last v] (c.read n (c.sum last v) r) := by
  rw [Cod.read_succ, h]
  dsimp only
  rw [if_pos hb]
/-- A row's bytes, behind what was. -/
def preB (b : List UInt8) : Option (List UInt8) → Option (List UInt8)
  | none => none
  | some x => some (b ++ x)
theorem preB_nil (x : Option (List UInt8)) : preB [] x = x := by cases x <;> rfl
theorem preB_pre (a b : List UInt8) (x : Option (List UInt8)) : preB a (preB b x) = preB (a ++ b) x := by
  cases x with
  | none => rfl
  | some p => simp [preB]
theorem Cod.row_ok (c : Cod) (last v : Int) (l : List Int) (hb : boundI c.s v = true) (hf : c.fits (plainI c.s (c.diff last v)) = true) : c.row last (v :: l) = preB (putU c.h (c.b - 1) (plainI c.s (c.diff last v)).toNat) (c.row v l) := by
  conv => lhs; unfold Cod.row
  rw [if_pos ⟨hb, hf⟩]
  cases c.row v l <;> rfl
theorem Cod.row_out (c : Cod) (last v : Int) (l : List Int) (h : ¬ (boundI c.s v = true ∧ c.fits (plainI c.s (c.diff last v)) = true)) : c.row last (v :: l) = none := by
  conv => lhs; unfold Cod.row
  rw [if_neg h]
/-- Of what is read: it may be as great as a row's numbers are. -/
theorem Cod.get_in (c : Cod) (hc : c.ok) {l : List UInt8} {p : Int × List UInt8} (h : c.get l = .ok p) : -8589934592 ≤ p.1 ∧ p.1 ≤ 8589934592 := by
  unfold Cod.get at h
  cases hg : getU c.h (c.b - 1) l with
  | none => rw [hg] at h; cases h
  | some q =>
    obtain ⟨u, r⟩ := q
    rw [hg] at h
    dsimp only at h
    split at h
    · cases h
    · cases h
      dsimp only
      unfold numI
      obtain ⟨_, _, _, _, hs, _⟩ := hc
      obtain h0 | h1 | h2 : c.s = 0 ∨ c.s = 1 ∨ c.s = 2 := by omega
      · rw [if_pos h0]; omega
      · simp only [h1, show ¬ (1 : Nat) = 0 from by decide, if_false, show (2 : Int) ^ 1 = 2 from rfl]
        split <;> omega
      · simp only [h2, show ¬ (2 : Nat) = 0 from by decide, if_false, show (2 : Int) ^ 2 = 4 from rfl]
        split <;> omega
theorem Cod.sum_in (c : Cod) (last : Int) {v : Int} (h : boundI c.s v = true) : -2147483648 ≤ c.sum last v ∧ c.sum last v < 4294967296 := by
  unfold Cod.sum
  split
  · exact roundI_in _ _
  · exact boundI_in h
theorem get_rest {h : Nat} : ∀ (k : Nat) (l : List UInt8) (p : Nat × List UInt8), getU h k l = some p → ∃ n, 1 ≤ n ∧ n ≤ l.length ∧ n ≤ k + 1 ∧ p.2 = l.drop n
  | k, [], p, e => by cases k <;> simp [getU] at e
  | 0, x :: l, p, e => by
    simp only [getU, Option.some.injEq] at e
    rw [← e]
    exact ⟨1, Nat.le_refl _, by simp, Nat.le_refl _, rfl⟩
  | k + 1, x :: l, p, e => by
    simp only [getU] at e
    split at e
    · simp only [Option.some.injEq] at e
      rw [← e]
      exact ⟨1, Nat.le_refl _, by simp, by omega, rfl⟩
    · cases hg : getU h k l with
      | none => rw [hg] at e; cases e
      | some q =>
        rw [hg] at e
        simp only [Option.map_some, Option.some.injEq] at e
        obtain ⟨n, h1, h2, h3, h4⟩ := get_rest k l q hg
        rw [← e]
        exact ⟨n + 1, by omega, by simp only [List.length_cons]; omega, by omega, by dsimp only; rw [h4, List.drop_succ_cons]⟩
end Go.Proofs.Ytbdkoagagcemcaa

/- The walks of layer 24: a number's plain one and a plain one's number, bounds, and going round into them. -/
namespace Go.Proofs.Ytbdkoagagcemcaa
open Go.RowKit

theorem i64_not (x : Int) (h : I64 x) : bits .xor .i64 (-1) x = -1 - x := by
  show IntKind.i64.wrap ((BitVec.ofInt 64 (-1) ^^^ BitVec.ofInt 64 x).toNat : Nat) = _
  unfold I64 at h
  have e : BitVec.ofInt 64 (-1) = BitVec.allOnes 64 := by decide
  rw [e, BitVec.allOnes_xor, BitVec.toNat_not, BitVec.toNat_ofInt, IntKind.wrap_i64]
  omega
theorem small_s {c : Cod} (hc : c.ok) : c.s = 0 ∨ c.s = 1 ∨ c.s = 2 := by have := hc.2.2.2.2.1; omega
set_option maxRecDepth 100000 in
theorem bound_any (c : Cod) (hc : c.ok) (v : Int) (hv : I64 v) (w : World) : Calls Try.prog 68 #[c.val, .int .i64 v] w fun ex y => ex = .returned (.bool (boundI c.s v)) ∧ Below w.heap.size w y := by
  have h := small_s hc
  unfold I64 at hv
  unfold Cod.val boundI
  generalize c.b = B
  generalize c.h = H
  generalize c.d = D
  generalize c.s = S at *
  clear hc c
  rcases h with rfl | rfl | rfl
  all_goals
    go_enter Try.func68, Try.ntmps68
    go_wp2_with fail
    go_ret
    refine ⟨ret_bool ?_, (Below.refl _ _).alloc (Nat.le_refl _) _⟩
    rw [Bool.eq_iff_iff]
    try unfold wrap64 wrap32
    simp
    omega
set_option maxRecDepth 100000 in
theorem round_any (c : Cod) (hc : c.ok) (v : Int) (hv : I64 v) (w : World) : Calls Try.prog 70 #[c.val, .int .i64 v] w fun ex y => ex = .returned (.int .i64 (roundI c.s v)) ∧ Below w.heap.size w y := by
  have h := small_s hc
  unfold I64 at hv
  unfold Cod.val roundI
  generalize c.b = B
  generalize c.h = H
  generalize c.d = D
  generalize c.s = S at *
  clear hc c
  rcases h with rfl | rfl | rfl
  all_goals
    go_enter Try.func70, Try.ntmps70
    go_wp2_with fail
    go_ret
    refine ⟨ret_int ?_, (Below.refl _ _).alloc (Nat.le_refl _) _⟩
    try simp
    try unfold wrap64 wrap32
    try omega
set_option maxRecDepth 100000 in
theorem plain_any (c : Cod) (hc : c.ok) (v : Int) (hv : I64 v) (w : World) : Calls Try.prog 69 #[c.val, .int .i64 v] w fun ex y => ex = .returned (.int .i64 (plainP c.s v)) ∧ Below w.heap.size w y := by
  have h := small_s hc
  unfold I64 at hv
  unfold Cod.val plainP
  generalize c.b = B
  generalize c.h = H
  generalize c.d = D
  generalize c.s = S at *
  clear hc c
  by_cases h1 : v < -8589934592
  · have p1 : decide (v < -8589934592) = true := decide_eq_true h1
    rw [if_pos (.inl h1)]
    go_enter Try.func69, Try.ntmps69
    go_wp2_with fail
    go_ret
    exact ⟨rfl, (Below.refl _ _).alloc (Nat.le_refl _) _⟩
  · have p1 : decide (v < -8589934592) = false := decide_eq_false h1
    by_cases h2 : 8589934592 < v
    · have p2 : decide (8589934592 < v) = true := decide_eq_true h2
      rw [if_pos (.inr h2)]
      go_enter Try.func69, Try.ntmps69
      go_wp2_with fail
      go_ret
      exact ⟨rfl, (Below.refl _ _).alloc (Nat.le_refl _) _⟩
    · have p2 : decide (8589934592 < v) = false := decide_eq_false h2
      rw [if_neg (by omega)]
      unfold plainI
      by_cases h3 : v < 0
      · have p3 : decide (v < 0) = true := decide_eq_true h3
        have hn := i64_not v hv
        rcases h with rfl | rfl | rfl
        · go_enter Try.func69, Try.ntmps69
          go_wp2_with fail
          go_ret
          exact ⟨rfl, (Below.refl _ _).alloc (Nat.le_refl _) _⟩
        · go_enter Try.func69, Try.ntmps69
          go_wp2_with fail
          go_ret
          refine ⟨ret_int ?_, (Below.refl _ _).alloc (Nat.le_refl _) _⟩
          rw [show wrap64 ((-1 - v) * 2) = (-1 - v) * 2 from by unfold wrap64; omega, i64_or 1 _ _ (by omega) (by omega) (by omega) (by omega) (by omega) (by omega)]
        · go_enter Try.func69, Try.ntmps69
          go_wp2_with fail
          go_ret
          refine ⟨ret_int ?_, (Below.refl _ _).alloc (Nat.le_refl _) _⟩
          rw [show wrap64 ((-1 - v) * 4) = (-1 - v) * 4 from by unfold wrap64; omega, i64_or 2 _ _ (by omega) (by omega) (by omega) (by omega) (by omega) (by omega)]
      · have p3 : decide (v < 0) = false := decide_eq_false h3
        rcases h with rfl | rfl | rfl
        all_goals
          go_enter Try.func69, Try.ntmps69
          go_wp2_with fail
          go_ret
          refine ⟨ret_int ?_, (Below.refl _ _).alloc (Nat.le_refl _) _⟩
          simp [h3]
          try omega
set_option maxRecDepth 100000 in
theorem number_any (c : Cod) (hc : c.ok) (u : Int) (h0 : 0 ≤ u) (hu : u ≤ 2000000000000) (w : World) : Calls Try.prog 101 #[c.val, .int .i64 u] w fun ex y => ex = .returned (.int .i64 (numI c.s u)) ∧ Below w.heap.size w y := by
  have h := small_s hc
  unfold Cod.val numI
  generalize c.b = B
  generalize c.h = H
  generalize c.d = D
  generalize c.s = S at *
  clear hc c
  have n2 := i64_not (u / 2) (by unfold I64; omega)
  have n4 := i64_not (u / 4) (by unfold I64; omega)
  rcases h with rfl | rfl | rfl
  · go_enter Try.func101, Try.ntmps101
    go_wp2_with fail
    go_ret
    exact ⟨rfl, (Below.refl _ _).alloc (Nat.le_refl _) _⟩
  · by_cases h1 : u % 2 = 1
    · have q : (bits .and .i64 u 1 == 1) = true := by rw [i64_and1, h1]; rfl
      go_enter Try.func101, Try.ntmps101
      go_wp2_with fail
      go_ret
      refine ⟨ret_int ?_, (Below.refl _ _).alloc (Nat.le_refl _) _⟩
      simp [h1]
      try omega
    · have q : (bits .and .i64 u 1 == 1) = false := by rw [i64_and1]; simpa using h1
      go_enter Try.func101, Try.ntmps101
      go_wp2_with fail
      go_ret
      refine ⟨ret_int ?_, (Below.refl _ _).alloc (Nat.le_refl _) _⟩
      simp [h1]
  · by_cases h1 : u % 4 = 3
    · have q : (bits .and .i64 u 3 == 3) = true := by rw [i64_and3, h1]; rfl
      go_enter Try.func101, Try.ntmps101
      go_wp2_with fail
      go_ret
      refine ⟨ret_int ?_, (Below.refl _ _).alloc (Nat.le_refl _) _⟩
      simp [h1]
      try omega
    · have q : (bits .and .i64 u 3 == 3) = false := by rw [i64_and3]; simpa using h1
      go_enter Try.func101, Try.ntmps101
      go_wp2_with fail
      go_ret
      refine ⟨ret_int ?_, (Below.refl _ _).alloc (Nat.le_refl _) _⟩
      simp [h1]
set_option maxRecDepth 100000 in
theorem fits_any (c : Cod) (hc : c.ok) (u : Int) (w : World) : Calls Try.prog 71 #[c.val, .int .i64 u] w fun ex y => ex = .returned (.bool (c.fits u)) ∧ Below w.heap.size w y := by
  have HR := Lib.hid (fun w => reach_any c hc w)
  have hfin := Lib.hid (show c.fits u = (decide (0 ≤ u) && decide (u < (c.reach : Int))) by unfold Cod.fits; rw [Bool.decide_and])
  unfold Cod.val at *
  generalize c.fits u = F at *
  generalize c.reach = R at *
  generalize c.b = B at *
  generalize c.h = H at *
  generalize c.d = D at *
  generalize c.s = S at *
  clear hc c
  by_cases h0 : 0 ≤ u
  · have p0 : decide (0 ≤ u) = true := decide_eq_true h0
    go_enter Try.func71, Try.ntmps71
    go_wp2_with fail
    refine (HR.out _).mono ?_
    rintro ex y ⟨rfl, hb1⟩
    have HB := Lib.hid (Below.after' ((Below.refl w.heap.size w).alloc (Nat.le_refl _) _) hb1 (by simp))
    clear hb1 HR
    go_wp2_with fail
    go_ret
    exact ⟨by rw [hfin.out, p0]; rfl, HB.out⟩
  · have p0 : decide (0 ≤ u) = false := decide_eq_false h0
    go_enter Try.func71, Try.ntmps71
    go_wp2_with fail
    go_ret
    exact ⟨by rw [hfin.out, p0]; rfl, (Below.refl _ _).alloc (Nat.le_refl _) _⟩
end Go.Proofs.Ytbdkoagagcemcaa

/- Rows of bytes that are read. -/
namespace Go.Proofs.Ytbdkoagagcemcaa
open Go.RowKit

theorem addr_addB (g o j : Nat) : Addr.add ⟨g, o, none⟩ j = ⟨g, o + j, none⟩ := by unfold Addr.add; split <;> simp_all
def BAt (w : World) (A : Option Addr) (c : Nat) (l : List UInt8) : Prop :=
  l.length ≤ c ∧ (0 < l.length → ∃ g o, A = some ⟨g, o, none⟩ ∧ g < w.heap.size ∧ ∀ (j : Nat) x, l[j]? = some x → w.cell? ⟨g, o + j, none⟩ = some (.int .u8 (x.toNat : Int)))
theorem BAt.keep {w w' : World} {A : Option Addr} {c : Nat} {l : List UInt8} (h : BAt w A c l) {B : Nat} (k : Below B w w') (hB : ∀ g o, A = some ⟨g, o, none⟩ → 0 < l.length → g < B) : BAt w' A c l :=
  ⟨h.1, fun hp => by
    obtain ⟨g, o, e, hg, hc⟩ := h.2 hp
    exact ⟨g, o, e, Nat.lt_of_lt_of_le hg (k.size), fun j x hx => (k.cell (p := ⟨g, _, none⟩) (hB g o e hp)).trans (hc j x hx)⟩⟩
theorem BAt.grow {w w' : World} {A : Option Addr} {c : Nat} {l : List UInt8} (h : BAt w A c l) (k : Below w.heap.size w w') : BAt w' A c l :=
  ⟨h.1, fun hp => by
    obtain ⟨g, o, e, hg, hc⟩ := h.2 hp
    exact ⟨g, o, e, Nat.lt_of_lt_of_le hg k.size, fun j x hx => (k.cell (p := ⟨g, _, none⟩) hg).trans (hc j x hx)⟩⟩
theorem BAt.nil (w : World) (A : Option Addr) (c : Nat) : BAt w A c [] := ⟨Nat.zero_le _, fun h => by simp at h⟩
theorem BAt.at_ {w : World} {A : Option Addr} {c : Nat} {b : List UInt8} (h : BAt w A c b) {i : Nat} (hi : i < b.length) : ∃ g o x, A = some ⟨g, o, none⟩ ∧ g < w.heap.size ∧ b[i]? = some x ∧ w.cell? ⟨g, o + i, none⟩ = some (.int .u8 (x.toNat : Int)) := by
  obtain ⟨g, o, e, hg, hc⟩ := h.2 (by omega)
  exact ⟨g, o, _, e, hg, List.getElem?_eq_getElem hi, hc i _ (List.getElem?_eq_getElem hi)⟩
theorem BAt.take {w : World} {A : Option Addr} {c : Nat} {b : List UInt8} (h : BAt w A c b) (k : Nat) : BAt w A c (b.take k) := by
  refine ⟨Nat.le_trans (by rw [List.length_take]; omega) h.1, fun hp => ?_⟩
  rw [List.length_take] at hp
  obtain ⟨g, o, e, hg, hc⟩ := h.2 (by omega)
  refine ⟨g, o, e, hg, fun j p hj => hc j p ?_⟩
  rw [List.getElem?_take] at hj
  split at hj
  · exact hj
  · cases hj
theorem BAt.text {w : World} {A : Option Addr} {c : Nat} {l : List UInt8} (h : BAt w A c l) : (convert 23 9 (.slice A l.length c)).run Try.prog w = .ok (.string (bs l)) w := by
  by_cases h0 : l.length = 0
  · obtain rfl := List.eq_nil_of_length_eq_zero h0
    cases A with
    | none =>
      rw [run_convert_bytes_string w 23 9 5 none ([] : List UInt8).length c Try.underlying23 Try.underlying5 Try.underlying9]
      rfl
    | some a => exact run_convert_bytes_back (P := Try.prog) w 23 9 5 a c [] Try.underlying23 Try.underlying5 Try.underlying9 (fun j hj => by simp at hj)
  · obtain ⟨g, o, rfl, hg, hc⟩ := h.2 (by omega)
    exact run_convert_bytes_back (P := Try.prog) w 23 9 5 ⟨g, o, none⟩ c l Try.underlying23 Try.underlying5 Try.underlying9 (fun j hj => by
      rw [addr_addB]; exact hc j _ (List.getElem?_eq_getElem hj))
theorem infoByte : (Try.prog.info? 5).map (fun i => (i.zero, i.size, i.bytes)) = some (some (.int .u8 0), 1, 1) := by kernel_rfl
theorem BRow.at_ {w : World} {base : Nat} {v : Value} {l : List UInt8} (h : BRow w base 5 v l) : ∃ A c, v = .slice A l.length c ∧ BAt w A c l := by
  have hc := fun (g : Nat) (hg : v.ownBlock = some g) => World.ownsRow.cells h hg
  rcases h.2 with ⟨rfl, hn⟩ | ⟨g, cap, cur, rfl, h1, h2, h3, _⟩
  · obtain rfl : l = [] := List.eq_nil_of_length_eq_zero hn
    exact ⟨none, 0, rfl, BAt.nil _ _ _⟩
  · refine ⟨_, cap, rfl, h3, fun _ => ⟨g, 0, rfl, (Array.getElem?_eq_some_iff.1 h2).1, fun j x hx => ?_⟩⟩
    have := hc g rfl j (.int .u8 (x.toNat : Int)) (by simp [cb, hx])
    rw [addr_addB] at this
    exact this
/-- Bytes that are read, as a source. -/
theorem BAt.src {w : World} {A : Option Addr} {c : Nat} {l : List UInt8} (h : BAt w A c l) : Src Try.prog 1 23 (.slice A l.length c) l.length (cb l) w := by
  by_cases h0 : l.length = 0
  · obtain rfl := List.eq_nil_of_length_eq_zero h0
    cases A with
    | none => exact Src.ofNil w Try.underlying23 c
    | some a => exact Src.ofSlice w Try.underlying23 a 0 c [] rfl (fun j u hu => by simp at hu) (fun u hu => by cases hu)
  · obtain ⟨g, o, rfl, hg, hc⟩ := h.2 (by omega)
    refine Src.ofSlice w Try.underlying23 ⟨g, o, none⟩ _ c (cb l) (by simp [cb]) (fun j u hu => ?_) (fun u hu => ?_)
    · rw [addr_addB]
      have : ∃ x, l[j]? = some x ∧ u = .int .u8 (x.toNat : Int) := by
        simp only [cb, List.getElem?_map, Option.map_eq_some_iff] at hu
        obtain ⟨x, h1, h2⟩ := hu
        exact ⟨x, h1, h2.symm⟩
      obtain ⟨x, hx, rfl⟩ := this
      exact hc j x hx
    · simp only [cb, List.mem_map] at hu
      obtain ⟨x, _, rfl⟩ := hu
      rfl
end Go.Proofs.Ytbdkoagagcemcaa
