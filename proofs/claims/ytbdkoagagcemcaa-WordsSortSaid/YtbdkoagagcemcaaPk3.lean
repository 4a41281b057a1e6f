/- Joined texts: PpPlainC, PpWalksF, PpPlainD, Bd, Wd, WdB, WdC, Be, Bits, BhA, BhP, BhB. -/
import Derived.Test.YtbdkoagagcemcaaPk2
import Derived.Deep.OwnRows
import Derived.Test.YtbdkoagagcemcaaPk1
import Derived.LoopN
import Derived.WalkKit
import Derived.Test.YtbdkoagagcemcaaProg
import Derived.WalkSpells
import Derived.Lib.Hide
/- Layer 25 in plain words: the numbers that come most often. No program. -/
namespace Go.Proofs.Ytbdkoagagcemcaa.Pp
open Go.RowKit

/-- a stands ahead of b: it comes more often, or as often and is less. -/
def Po.bef (l : List Int) (a b : Int) : Prop := l.count b < l.count a ∨ (l.count a = l.count b ∧ a < b)
instance (l : List Int) (a b : Int) : Decidable (Po.bef l a b) := by unfold Po.bef; infer_instance
/-- No candidate. -/
def Po.no (l out : List Int) (v : Int) : Prop := l.count v < 2 ∨ 0 < out.count v
instance (l out : List Int) (v : Int) : Decidable (Po.no l out v) := by unfold Po.no; infer_instance
/-- One number more is looked at. -/
def Po.pick (l out : List Int) (acc : Option Int) (v : Int) : Option Int :=
  if Po.no l out v then acc else if ∃ b, acc = some b ∧ ¬ Po.bef l v b then acc else some v
def Po.next (l out : List Int) (xs : List Int) : Option Int := xs.foldl (Po.pick l out) none
theorem Po.next_snoc (l out xs : List Int) (v : Int) : Po.next l out (xs ++ [v]) = Po.pick l out (Po.next l out xs) v := by
  unfold Po.next; rw [List.foldl_append]; rfl
def Po.favs (l : List Int) : Nat → List Int
  | 0 => []
  | k + 1 => Po.favs l k ++ (Po.next l (Po.favs l k) l).toList
theorem Po.favs_succ (l : List Int) (k : Nat) : Po.favs l (k + 1) = Po.favs l k ++ (Po.next l (Po.favs l k) l).toList := rfl
theorem Po.favs_stay {l : List Int} {k : Nat} (h : Po.next l (Po.favs l k) l = none) : ∀ j, Po.favs l (k + j) = Po.favs l k
  | 0 => rfl
  | j + 1 => by rw [← Nat.add_assoc, Po.favs_succ, Po.favs_stay h j, h]; simp
theorem Po.bef_trans {l : List Int} {a b c : Int} (h : Po.bef l a b) (k : Po.bef l b c) : Po.bef l a c := by unfold Po.bef at *; omega
theorem Po.bef_asymm {l : List Int} {a b : Int} (h : Po.bef l a b) : ¬ Po.bef l b a := by unfold Po.bef at *; omega
theorem Po.bef_total {l : List Int} {a b : Int} (h : ¬ Po.bef l a b) : a = b ∨ Po.bef l b a := by unfold Po.bef at *; omega
theorem Po.bef_irrefl {l : List Int} {a : Int} : ¬ Po.bef l a a := by unfold Po.bef; omega
/-- What is picked. -/
def Po.Best (l out xs : List Int) : Option Int → Prop
  | none => ∀ v ∈ xs, Po.no l out v
  | some b => b ∈ xs ∧ ¬ Po.no l out b ∧ ∀ v ∈ xs, Po.no l out v ∨ v = b ∨ Po.bef l b v
theorem Po.best_step {l out xs : List Int} {r : Option Int} {v : Int} (h : Po.Best l out xs r) : Po.Best l out (xs ++ [v]) (Po.pick l out r v) := by
  unfold Po.pick
  by_cases hno : Po.no l out v
  · rw [if_pos hno]
    cases r with
    | none =>
      intro x hx
      rcases List.mem_append.1 hx with h1 | h1
      · exact h x h1
      · rw [List.mem_singleton] at h1; subst h1; exact hno
    | some b =>
      refine ⟨List.mem_append_left _ h.1, h.2.1, fun x hx => ?_⟩
      rcases List.mem_append.1 hx with h1 | h1
      · exact h.2.2 x h1
      · rw [List.mem_singleton] at h1; subst h1; exact .inl hno
  · rw [if_neg hno]
    cases r with
    | none =>
      rw [if_neg (by rintro ⟨b, hb, _⟩; cases hb)]
      refine ⟨by simp, hno, fun x hx => ?_⟩
      rcases List.mem_append.1 hx with h1 | h1
      · exact .inl (h x h1)
      · rw [List.mem_singleton] at h1; exact .inr (.inl h1)
    | some b =>
      by_cases hb : Po.bef l v b
      · rw [if_neg (by rintro ⟨c, hc, h2⟩; cases hc; exact h2 hb)]
        refine ⟨by simp, hno, fun x hx => ?_⟩
        rcases List.mem_append.1 hx with h1 | h1
        · rcases h.2.2 x h1 with h2 | rfl | h2
          · exact .inl h2
          · exact .inr (.inr hb)
          · exact .inr (.inr (Po.bef_trans hb h2))
        · rw [List.mem_singleton] at h1; exact .inr (.inl h1)
      · rw [if_pos ⟨b, rfl, hb⟩]
        refine ⟨List.mem_append_left _ h.1, h.2.1, fun x hx => ?_⟩
        rcases List.mem_append.1 hx with h1 | h1
        · exact h.2.2 x h1
        · rw [List.mem_singleton] at h1; subst h1
          rcases Po.bef_total hb with h2 | h2
          · exact .inr (.inl h2)
          · exact .inr (.inr h2)
theorem Po.best (l out : List Int) : ∀ (n : Nat) (xs : List Int), xs.length = n → Po.Best l out xs (Po.next l out xs)
  | 0, xs, h => by rw [List.eq_nil_of_length_eq_zero h]; intro v hv; simp at hv
  | n + 1, xs, h => by
    obtain ⟨ys, y, rfl⟩ : ∃ ys y, xs = ys ++ [y] := ⟨xs.dropLast, xs.getLast (by intro e; rw [e] at h; simp at h), (List.dropLast_concat_getLast _).symm⟩
    rw [Po.next_snoc]
    exact Po.best_step (Po.best l out n ys (by simp at h; exact h))
/-- The favorites, all of them, in their order. -/
def Po.Is (l S : List Int) : Prop := S.Pairwise (Po.bef l) ∧ ∀ v, v ∈ S ↔ 2 ≤ l.count v
theorem Po.favs_take {l S : List Int} (h : Po.Is l S) : ∀ k, Po.favs l k = S.take k
  | 0 => rfl
  | k + 1 => by
    have ih := Po.favs_take h k
    have hb := Po.best l (Po.favs l k) l.length l rfl
    rw [Po.favs_succ]
    rw [ih] at hb ⊢
    by_cases hk : k < S.length
    · have hs : S[k]? = some S[k] := List.getElem?_eq_getElem hk
      have htk := take_snocI S k _ hs
      have hdr := (List.drop_eq_getElem_cons hk)
      have hsplit : S = S.take k ++ S[k] :: S.drop (k + 1) := by rw [← hdr, List.take_append_drop]
      have hp := h.1
      rw [hsplit, List.pairwise_append] at hp
      have hp2 := List.pairwise_cons.1 hp.2.1
      have hin : 2 ≤ l.count S[k] := (h.2 _).1 (List.getElem_mem hk)
      have hnot : (S.take k).count S[k] = 0 := List.count_eq_zero_of_not_mem (fun hm => Po.bef_irrefl (hp.2.2 _ hm _ (List.mem_cons_self ..)))
      have hno : ¬ Po.no l (S.take k) S[k] := by unfold Po.no; omega
      have hml : S[k] ∈ l := List.count_pos_iff.1 (by omega)
      cases hn : Po.next l (S.take k) l with
      | none => rw [hn] at hb; exact absurd (hb _ hml) hno
      | some b =>
        rw [hn] at hb
        obtain ⟨h1, h2, h3⟩ := hb
        have hbS : b ∈ S := (h.2 b).2 (by unfold Po.no at h2; omega)
        have hbn : b ∉ S.take k := fun hm => h2 (.inr (List.count_pos_iff.2 hm))
        have e : b = S[k] := by
          rcases h3 _ hml with h4 | h4 | h4
          · exact absurd h4 hno
          · exact h4.symm
          · rw [hsplit] at hbS
            rcases List.mem_append.1 hbS with h5 | h5
            · exact absurd h5 hbn
            · rcases List.mem_cons.1 h5 with h6 | h6
              · exact h6
              · exact absurd h4 (Po.bef_asymm (hp2.1 b h6))
        rw [htk, e]; rfl
    · have e1 : S.take k = S := List.take_of_length_le (by omega)
      have e2 : S.take (k + 1) = S := List.take_of_length_le (by omega)
      rw [e1] at hb
      rw [e1, e2]
      cases hn : Po.next l S l with
      | none => simp
      | some b =>
        rw [hn] at hb
        have hbS : b ∈ S := (h.2 b).2 (by have := hb.2.1; unfold Po.no at this; omega)
        exact absurd (.inr (List.count_pos_iff.2 hbS)) hb.2.1
/-- What is picked comes at least twice, and is new. -/
theorem Po.favs_facts (l : List Int) : ∀ k, (Po.favs l k).Nodup ∧ ∀ v ∈ Po.favs l k, 2 ≤ l.count v
  | 0 => ⟨List.nodup_nil, fun v hv => by simp [Po.favs] at hv⟩
  | k + 1 => by
    obtain ⟨h1, h2⟩ := Po.favs_facts l k
    have hb := Po.best l (Po.favs l k) l.length l rfl
    rw [Po.favs_succ]
    cases hn : Po.next l (Po.favs l k) l with
    | none => simpa using ⟨h1, h2⟩
    | some b =>
      rw [hn] at hb
      have hb2 := hb.2.1
      unfold Po.no at hb2
      rw [show (some b).toList = [b] from rfl, nodup_snoc]
      refine ⟨⟨h1, fun hm => hb2 (.inr (List.count_pos_iff.2 hm))⟩, fun v hv => ?_⟩
      rcases List.mem_append.1 hv with h3 | h3
      · exact h2 v h3
      · rw [List.mem_singleton] at h3; subst h3; omega
theorem length_le_sub : ∀ (xs l : List Int), xs.Nodup → (∀ v ∈ xs, v ∈ l) → xs.length ≤ l.length
  | [], _, _, _ => Nat.zero_le _
  | x :: xs, l, hn, hm => by
    rw [List.nodup_cons] at hn
    have hx := hm x (List.mem_cons_self ..)
    have := length_le_sub xs (l.erase x) hn.2 (fun v hv => (List.mem_erase_of_ne (show v ≠ x from fun e => hn.1 (by rw [← e]; exact hv))).2 (hm v (List.mem_cons_of_mem _ hv)))
    rw [List.length_erase_of_mem hx] at this
    have := List.length_pos_of_mem hx
    simp only [List.length_cons]
    omega
theorem Po.favs_le (l : List Int) (k : Nat) : (Po.favs l k).length ≤ l.length :=
  length_le_sub _ _ (Po.favs_facts l k).1 (fun v hv => List.count_pos_iff.1 (by have := (Po.favs_facts l k).2 v hv; omega))
end Go.Proofs.Ytbdkoagagcemcaa.Pp
/- The walk of layer 25: joining. -/
namespace Go.Proofs.Ytbdkoagagcemcaa.Pp
open Go.RowKit Go.Maps

/-- What the call comes to. -/
def JoinRes (fs ts rs : List Int) (w : World) (e : Ending) (w' : World) : Prop :=
  ∃ A c, e = .returned (.tuple #[.slice A (Po.out fs ts rs).length c, .int .i64 (Po.err fs ts rs)]) ∧ (Ints w' A c (Po.out fs ts rs) ∧ ∀ g o, A = some ⟨g, o, none⟩ → w.heap.size ≤ g) ∧ Below w.heap.size w w'
theorem _root_.Go.Proofs.Ytbdkoagagcemcaa.Ints.next {w : World} {A : Option Addr} {c : Nat} {x : Int} {xs : List Int} (h : Ints w A c (x :: xs)) : ∃ g o, A = some ⟨g, o, none⟩ ∧ g < w.heap.size ∧ w.cell? ⟨g, o, none⟩ = some (.int .i64 x) ∧ xs.length + 1 ≤ c ∧ Ints w (if c = 1 then some ⟨g, o, none⟩ else some ⟨g, o + 1, none⟩) (c - 1) xs := by
  obtain ⟨g, o, rfl, hg, hc⟩ := h.2 (by simp)
  have h1 := h.1
  rw [List.length_cons] at h1
  refine ⟨g, o, rfl, hg, by simpa using hc 0 x (by simp), h1, by omega, fun hp => ?_⟩
  rw [if_neg (by omega)]
  refine ⟨g, o + 1, rfl, hg, fun j y hy => ?_⟩
  have := hc (j + 1) y (by simpa using hy)
  rw [show o + 1 + j = o + (j + 1) from by omega]
  exact this
theorem drop_at {α : Type} {l : List α} {i : Nat} {x : α} (h : l[i]? = some x) : l.drop i = x :: l.drop (i + 1) := by
  obtain ⟨h3, rfl⟩ := List.getElem?_eq_some_iff.1 h
  exact List.drop_eq_getElem_cons h3
/-- One number more is stored. -/
theorem row_step {w : World} {b n i : Nat} {t : TypeId} {f : Nat → Int} {y : Int} (h : w.rowIs b t n (fun j => if j < i then .int .i64 (f j) else .int .i64 0)) (hy : f i = y) :
    (w.setCell ⟨b, i, none⟩ (.int .i64 y)).rowIs b t n (fun j => if j < i + 1 then .int .i64 (f j) else .int .i64 0) :=
  (h.set i _).congr (fun j _ => by
    by_cases e : j = i
    · subst e; simp [hy]
    · rw [if_neg e]
      by_cases h1 : j < i
      · rw [if_pos h1, if_pos (by omega)]
      · rw [if_neg h1, if_neg (by omega)])

set_option maxHeartbeats 8000000 in
set_option maxRecDepth 100000 in
theorem join_any (A B C : Option Addr) (c d k : Nat) (fs ts rs : List Int) (w : World) (hx : Ints w A c fs) (hy : Ints w B d ts) (hz : Ints w C k rs) (hI : ∀ x ∈ fs, I64 x) (hJ : ∀ x ∈ rs, I64 x)
    (hn : fs.length ≤ 100000) (hm : ts.length ≤ 100000) (hl : rs.length ≤ 100000) :
    Calls Try.prog 57 #[.slice A fs.length c, .slice B ts.length d, .slice C rs.length k] w (JoinRes fs ts rs w) := by
  have HX := Lib.hid hx
  have HY := Lib.hid hy
  have HZ := Lib.hid hz
  have HPL := Lib.hid (check_any A B C c d k fs ts rs w hx hy hz hI hJ hn hm hl)
  clear hx hy hz hI hJ
  by_cases h0 : Po.err fs ts rs = 0
  rotate_left
  · have q : (Po.err fs ts rs != 0) = true := by simp [h0]
    have hfin := Lib.hid (show Po.out fs ts rs = [] from if_neg h0)
    clear h0 HX HY HZ
    go_enter Try.func57, Try.ntmps57
    go_wp2_with fail
    refine HPL.out.mono ?_
    rintro e w0 ⟨rfl, hb0⟩
    have HB0 := Lib.hid hb0
    clear hb0 HPL
    go_wp2
    go_ret2
    exact ⟨none, 0, by rw [hfin.out]; rfl, ⟨by rw [hfin.out]; exact Ints.nil _ _ _, fun g o e => by cases e⟩, HB0.out⟩
  · have hE := Lib.hid (Po.err_zero h0)
    have hfin := Lib.hid (show Po.out fs ts rs = Po.rowN fs ts rs ts.length from if_pos h0)
    have hE0 := Lib.hid h0
    rw [h0] at HPL
    clear h0
    have hmk := run_make_row' (P := Try.prog) 22 3 (.int .i64 0) 8 Try.underlying22 infoInt rfl .i64 .i64 ts.length (by omega) (by omega)
    go_enter Try.func57, Try.ntmps57
    go_wp2_with fail
    refine HPL.out.mono ?_
    rintro e w0 ⟨rfl, hb0⟩
    have HB0 := Lib.hid hb0
    clear hb0 HPL
    go_wp2_with fail
    go_loopw [2, 24] (fun v u wr => ∃ i : Nat, i ≤ ts.length ∧ u = .int .i64 i ∧ (∃ A' c', v = .slice A' (rs.drop ((ts.take i).count 0)).length c' ∧ Ints w0 A' c' (rs.drop ((ts.take i).count 0))) ∧ wr.rowIs w0.heap.size 3 ts.length (fun j => if j < i then .int .i64 (Po.el fs ts rs j) else .int .i64 0) ∧ Below w0.heap.size w0 wr) (fun _ u _ => ts.length - (intOf u).toNat)
    case atStart => exact ⟨0, Nat.zero_le _, rfl, ⟨C, k, rfl, HZ.out.grow HB0.out⟩, (World.rowIs_made w0 (.int .i64 0) ts.length 3).congr (fun j _ => by simp), (Below.refl _ _).alloc (Nat.le_refl _) _⟩
    case round =>
      obtain ⟨i, hil, rfl, ⟨A', c', rfl, hrest⟩, hrow, hB⟩ := hrel
      have HB := Lib.hid hB
      have HR := Lib.hid hrest
      have HO := Lib.hid hrow
      have HW := Lib.hid (Below.after' HB0.out hB (Nat.le_refl _))
      by_cases h1 : i < ts.length
      · obtain ⟨g, o, x, rfl, hg, hxi, hct⟩ := (HY.out.grow HW.out).at_ h1
        have hxr := Po.bad_at hE.out.1 hxi
        have hcs := Lib.hid (Po.count_step hxi)
        have hcell := hrow.cell h1
        have hfr := hrow.frozen i
        rw [if_neg (Nat.lt_irrefl i)] at hcell
        have HXI := Lib.hid hxi
        clear hB hrest hrow hxi
        by_cases hx0 : x = 0
        · subst hx0
          have q : decide ((0 : Int) < 0) = false := rfl
          have hrm := Po.room HXI.out
          rw [hE.out.2.2] at hrm
          have hcs2 := Lib.hid (hcs.out.trans (by rw [if_pos rfl]))
          obtain ⟨y, hyr⟩ : ∃ y, rs[(ts.take i).count 0]? = some y := ⟨_, List.getElem?_eq_getElem hrm⟩
          have hdr := drop_at hyr
          have hel := Lib.hid (Po.el_rest (fs := fs) HXI.out hyr)
          have hR2 := HR.out
          rw [hdr] at hR2 ⊢
          obtain ⟨g2, o2, rfl, hg2, hc2, hcap, hnx⟩ := hR2.next
          have hcell2 : wr.cell? ⟨g2, o2, none⟩ = some (.int .i64 y) := (HB.out.cell (p := ⟨g2, o2, none⟩) hg2).trans hc2
          have HN := Lib.hid hnx
          have HS := Lib.hid (row_step HO.out hel.out)
          have HD := Lib.hid (HB.out.setCell (p := ⟨w0.heap.size, i, none⟩) (Nat.le_refl _) (.int .i64 y))
          rw [← hcs2.out] at HN ⊢
          clear HR hc2 hR2 hdr hyr hcs hnx hg2
          generalize hrr : rs.drop ((ts.take (i + 1)).count 0) = rs2 at *
          have HRR := Lib.hid hrr
          clear hrr
          simp only [List.length_cons]
          go_wp2_with fail
          go_region
          all_goals go_wp2
          all_goals go_roundw
          case rel => exact ⟨i + 1, by omega, by go_num, ⟨_, _, by rw [HRR.out], by rw [HRR.out]; exact HN.out⟩, HS.out, HD.out.drew⟩
          case measure => simp [intOf]; omega
        · obtain ⟨m, rfl⟩ : ∃ m : Nat, x = ((m + 1 : Nat) : Int) := ⟨(x - 1).toNat, by omega⟩
          have q : decide ((0 : Int) < ((m + 1 : Nat) : Int)) = true := by simp
          obtain ⟨g2, o2, y, rfl, hg2, hyr, hcell2⟩ := (HX.out.grow HW.out).at_ (i := m) (by omega)
          have ek : ((m + 1 : Nat) : Int) - 1 = (m : Int) := by omega
          have hel := Lib.hid (Po.el_place (rs := rs) HXI.out hyr)
          have hcs2 := Lib.hid (hcs.out.trans (by rw [if_neg hx0, Nat.add_zero]))
          have HS := Lib.hid (row_step HO.out hel.out)
          have HD := Lib.hid (HB.out.setCell (p := ⟨w0.heap.size, i, none⟩) (Nat.le_refl _) (.int .i64 y))
          have hmf : m < fs.length := by omega
          rw [← hcs2.out] at HR ⊢
          generalize hrr : rs.drop ((ts.take (i + 1)).count 0) = rs2 at *
          have HRR := Lib.hid hrr
          clear hrr hcs hyr hxr hx0
          go_wp2_with fail
          go_roundw
          case rel => exact ⟨i + 1, by omega, by go_num, ⟨_, _, by rw [HRR.out], by rw [HRR.out]; exact HR.out⟩, HS.out, HD.out⟩
          case measure => simp [intOf]; omega
      · have hii : i = ts.length := by omega
        subst hii
        have hrd : Ints wr (some ⟨w0.heap.size, 0, none⟩) ts.length (Po.rowN fs ts rs ts.length) := ⟨by rw [Po.rowN_length]; exact Nat.le_refl _, fun _ => ⟨w0.heap.size, 0, rfl, hrow.lt, fun j x hx => by
          obtain ⟨h3, rfl⟩ := Po.rowN_get _ _ _ _ _ _ hx
          rw [Nat.zero_add, hrow.cell h3, if_pos h3]⟩⟩
        have HF := Lib.hid hrd
        clear hrest hrow hrd hB HR HO
        go_wp2
        go_ret2
        exact ⟨_, _, by rw [hfin.out, Po.rowN_length, hE0.out]; rfl, ⟨by rw [hfin.out]; exact HF.out, fun g o e => by cases e; exact HB0.out.size⟩, HW.out⟩
end Go.Proofs.Ytbdkoagagcemcaa.Pp
/- Layer 25 in plain words: what is split by its favorites is joined. No program. -/
namespace Go.Proofs.Ytbdkoagagcemcaa.Pp
open Go.RowKit

theorem Po.count_tokens (fs : List Int) : ∀ l : List Int, (Po.tokens fs l).count 0 = (Po.left fs l).length
  | [] => rfl
  | x :: l => by
    have ih := Po.count_tokens fs l
    unfold Po.tokens Po.left at *
    rw [List.map_cons, List.filter_cons]
    by_cases h : Po.at fs x = 0
    · rw [h, if_pos (by simp)]
      rw [List.length_cons, ← ih]
      exact List.count_cons_self
    · rw [if_neg (by simp [h]), ← ih]
      rw [List.count_cons_of_ne (by simp; omega)]
theorem Po.back_err {fs : List Int} (hn : fs.Nodup) (l : List Int) : Po.err fs (Po.tokens fs l) (Po.left fs l) = 0 := by
  have hb : Po.bad fs (Po.tokens fs l) = false := by
    unfold Po.bad Po.tokens
    rw [List.any_map, List.any_eq_false]
    intro x _
    have := Po.at_le fs x
    simp
    omega
  have ht : Po.twice fs (Po.left fs l) = false := by
    unfold Po.twice
    rw [decide_eq_true hn, Bool.not_true, Bool.false_or, List.any_eq_false]
    intro x hx
    have := of_decide_eq_true (List.mem_filter.1 hx).2
    simp [this]
  unfold Po.err
  rw [hb, ht, Po.count_tokens]
  simp
theorem Po.back_el (fs l : List Int) {i : Nat} {x : Int} (hx : l[i]? = some x) : Po.el fs (Po.tokens fs l) (Po.left fs l) i = x := by
  have htk : (Po.tokens fs l)[i]? = some ((Po.at fs x : Nat) : Int) := by unfold Po.tokens; rw [List.getElem?_map, hx]; rfl
  by_cases h0 : Po.at fs x = 0
  · refine Po.el_rest (by rw [htk, h0]; rfl) ?_
    have e1 : (Po.tokens fs l).take i = Po.tokens fs (l.take i) := by unfold Po.tokens; rw [List.map_take]
    rw [e1, Po.count_tokens]
    have hsp : l = l.take i ++ x :: l.drop (i + 1) := by rw [← drop_at hx, List.take_append_drop]
    have e2 : Po.left fs l = Po.left fs (l.take i) ++ x :: Po.left fs (l.drop (i + 1)) := by
      conv => lhs; rw [hsp]
      unfold Po.left
      rw [List.filter_append, List.filter_cons, if_pos (by simp [h0])]
    rw [e2]
    simp
  · obtain ⟨m, hm⟩ : ∃ m, Po.at fs x = m + 1 := ⟨Po.at fs x - 1, by omega⟩
    have hg := Po.at_get h0
    rw [hm] at htk hg
    exact Po.el_place htk hg
theorem Po.back_out {fs : List Int} (hn : fs.Nodup) (l : List Int) : Po.out fs (Po.tokens fs l) (Po.left fs l) = l := by
  unfold Po.out
  rw [if_pos (Po.back_err hn l)]
  have hlen : (Po.tokens fs l).length = l.length := by unfold Po.tokens; rw [List.length_map]
  apply List.ext_getElem?
  intro j
  by_cases hj : j < l.length
  · have h1 : l[j]? = some l[j] := List.getElem?_eq_getElem hj
    rw [h1]
    unfold Po.rowN
    rw [List.getElem?_map, List.getElem?_range (by omega)]
    show some (Po.el fs (Po.tokens fs l) (Po.left fs l) j) = _
    rw [Po.back_el fs l h1]
  · rw [List.getElem?_eq_none (by rw [Po.rowN_length]; omega), List.getElem?_eq_none (by omega)]
theorem Po.favs_length (l : List Int) : ∀ k, (Po.favs l k).length ≤ k
  | 0 => Nat.le_refl _
  | k + 1 => by
    rw [Po.favs_succ, List.length_append]
    have := Po.favs_length l k
    have h2 : (Po.next l (Po.favs l k) l).toList.length ≤ 1 := by cases Po.next l (Po.favs l k) l <;> simp
    omega
end Go.Proofs.Ytbdkoagagcemcaa.Pp
/- Layer 26 plain: a row in the coding that is shortest, or by its favorites; what is written is read as it was. No program. -/
namespace Go.Proofs.Ytbdkoagagcemcaa
open Pp

/-- The shortest so far, behind one more coding. -/
def shortIn (l : List Int) (best : Option (List UInt8)) (i : Nat) (c : Cod) : Option (List UInt8) :=
  match c.row 0 l with
  | none => best
  | some b => match best with
    | none => some (UInt8.ofNat i :: b)
    | some x => if b.length + 1 < x.length then some (UInt8.ofNat i :: b) else best
def shortTo (l : List Int) : Nat → Option (List UInt8)
  | 0 => none
  | i + 1 => match cods[i]? with
    | none => shortTo l i
    | some c => shortIn l (shortTo l i) i c
def short (l : List Int) : Option (List UInt8) := shortTo l 15
/-- What a short row is. -/
def IsShort (l : List Int) (n : Nat) : Option (List UInt8) → Prop
  | none => ∀ i c, i < n → cods[i]? = some c → c.row 0 l = none
  | some x => (∃ i c b, i < n ∧ cods[i]? = some c ∧ c.row 0 l = some b ∧ x = UInt8.ofNat i :: b) ∧ ∀ i c b, i < n → cods[i]? = some c → c.row 0 l = some b → x.length ≤ b.length + 1
theorem shortTo_is (l : List Int) : ∀ n, IsShort l n (shortTo l n)
  | 0 => fun i c h _ => by omega
  | n + 1 => by
    have ih := shortTo_is l n
    unfold shortTo
    cases hc : cods[n]? with
    | none =>
      dsimp only
      have lt : ∀ i c, i < n + 1 → cods[i]? = some c → i < n := fun i c h1 h2 => by
        by_cases e : i = n
        · subst e; rw [hc] at h2; cases h2
        · omega
      cases hs : shortTo l n with
      | none =>
        rw [hs] at ih
        exact fun i c h1 h2 => ih i c (lt i c h1 h2) h2
      | some x =>
        rw [hs] at ih
        obtain ⟨⟨i, c, b, h1, h2, h3, h4⟩, h5⟩ := ih
        exact ⟨⟨i, c, b, by omega, h2, h3, h4⟩, fun i c b h1 h2 h3 => h5 i c b (lt i c h1 h2) h2 h3⟩
    | some c0 =>
      dsimp only
      unfold shortIn
      have cas : ∀ i c, i < n + 1 → cods[i]? = some c → i < n ∨ (i = n ∧ c = c0) := fun i c h1 h2 => by
        by_cases e : i = n
        · subst e; rw [hc] at h2; cases h2; exact .inr ⟨rfl, rfl⟩
        · exact .inl (by omega)
      cases hr : c0.row 0 l with
      | none =>
        dsimp only
        cases hs : shortTo l n with
        | none =>
          rw [hs] at ih
          intro i c h1 h2
          rcases cas i c h1 h2 with h | ⟨rfl, rfl⟩
          · exact ih i c h h2
          · exact hr
        | some x =>
          rw [hs] at ih
          obtain ⟨⟨i, c, b, h1, h2, h3, h4⟩, h5⟩ := ih
          refine ⟨⟨i, c, b, by omega, h2, h3, h4⟩, fun i c b h1 h2 h3 => ?_⟩
          rcases cas i c h1 h2 with h | ⟨rfl, rfl⟩
          · exact h5 i c b h h2 h3
          · rw [hr] at h3; cases h3
      | some b0 =>
        dsimp only
        cases hs : shortTo l n with
        | none =>
          rw [hs] at ih
          dsimp only
          refine ⟨⟨n, c0, b0, by omega, hc, hr, rfl⟩, fun i c b h1 h2 h3 => ?_⟩
          rcases cas i c h1 h2 with h | ⟨rfl, rfl⟩
          · rw [ih i c h h2] at h3; cases h3
          · rw [hr] at h3; cases h3; simp
        | some x =>
          rw [hs] at ih
          dsimp only
          obtain ⟨⟨i, c, b, h1, h2, h3, h4⟩, h5⟩ := ih
          split
          · rename_i hlt
            refine ⟨⟨n, c0, b0, by omega, hc, hr, rfl⟩, fun i c b h1 h2 h3 => ?_⟩
            rcases cas i c h1 h2 with h | ⟨rfl, rfl⟩
            · have := h5 i c b h h2 h3
              simp only [List.length_cons]
              omega
            · rw [hr] at h3; cases h3; simp
          · rename_i hlt
            refine ⟨⟨i, c, b, by omega, h2, h3, h4⟩, fun i c b h1 h2 h3 => ?_⟩
            rcases cas i c h1 h2 with h | ⟨rfl, rfl⟩
            · exact h5 i c b h h2 h3
            · rw [hr] at h3; cases h3; omega
/-- A row by its favorites. -/
def fav (l : List Int) (many : Nat) : Option (List UInt8) :=
  if Po.favs l many = [] then none else
    match short (Po.favs l many) with
    | none => none
    | some a => match short (Po.tokens (Po.favs l many) l) with
      | none => none
      | some b => match short (Po.left (Po.favs l many) l) with
        | none => none
        | some c => some (255 :: UInt8.ofNat (Po.favs l many).length :: (a ++ b ++ c))
def better (best : List UInt8) : Option (List UInt8) → List UInt8
  | none => best
  | some b => if b.length < best.length then b else best
/-- A band's bytes. -/
def bandW (l : List Int) : Option (List UInt8) := (short l).map fun s => if l.length < 8 then s else better (better (better s (fav l 1)) (fav l 3)) (fav l 15)
def joinR (n : Nat) : List UInt8 → Except Int (List Int × List UInt8)
  | [] => .error 6
  | m :: r => if m.toNat < 1 ∨ 15 < m.toNat then .error 2 else
    match nextR m.toNat r with
    | .error e => .error e
    | .ok (fs, r1) => match nextR n r1 with
      | .error e => .error e
      | .ok (ts, r2) => match nextR (ts.count 0) r2 with
        | .error e => .error e
        | .ok (rs, r3) => if Po.err fs ts rs = 0 then .ok (Po.out fs ts rs, r3) else .error (Po.err fs ts rs)
/-- A band that bytes begin with. -/
def bandR (n : Nat) : List UInt8 → Except Int (List Int × List UInt8)
  | [] => .error 6
  | k :: r => if k = 255 then joinR n r else plainR k.toNat n r
theorem nextR_cons (n : Nat) (k : UInt8) (r : List UInt8) : nextR n (k :: r) = plainR k.toNat n r := rfl
theorem bandR_join (n : Nat) (r : List UInt8) : bandR n (255 :: r) = joinR n r := rfl
theorem bandR_cons {n : Nat} {k : UInt8} (hk : k ≠ 255) (r : List UInt8) : bandR n (k :: r) = plainR k.toNat n r := by
  show (if k = 255 then joinR n r else plainR k.toNat n r) = _
  rw [if_neg hk]
theorem joinR_cons {n : Nat} {m : UInt8} (hm : ¬ (m.toNat < 1 ∨ 15 < m.toNat)) (r : List UInt8) : joinR n (m :: r) = (match nextR m.toNat r with
    | .error e => .error e
    | .ok (fs, r1) => match nextR n r1 with
      | .error e => .error e
      | .ok (ts, r2) => match nextR (ts.count 0) r2 with
        | .error e => .error e
        | .ok (rs, r3) => if Po.err fs ts rs = 0 then .ok (Po.out fs ts rs, r3) else .error (Po.err fs ts rs)) := by
  show (if m.toNat < 1 ∨ 15 < m.toNat then Except.error 2 else _) = _
  rw [if_neg hm]
theorem cods_len : cods.length = 15 := rfl
theorem next_short {l : List Int} {x : List UInt8} (h : short l = some x) (r : List UInt8) : ∃ k b, x = UInt8.ofNat k :: b ∧ k < 15 ∧ nextR l.length (x ++ r) = .ok (l, r) ∧ plainR k l.length (b ++ r) = .ok (l, r) := by
  have hs := shortTo_is l 15
  rw [show shortTo l 15 = some x from h] at hs
  obtain ⟨⟨i, c, b, h1, h2, h3, h4⟩, _⟩ := hs
  have hp : plainR i l.length (b ++ r) = .ok (l, r) := by
    unfold plainR
    rw [h2]
    dsimp only
    have hlen := c.row_len l 0 b h3
    rw [if_neg (by rw [List.length_append]; omega)]
    exact c.read_row (cods_ok c (List.mem_of_getElem? h2)) l 0 b r h3
  refine ⟨i, b, h4, h1, ?_, hp⟩
  rw [h4, List.cons_append, nextR_cons, ofNat_lt (by omega)]
  exact hp
theorem favs_bound (l : List Int) (k : Nat) (hk : k ≤ 15) : (Po.favs l k).length ≤ 15 := Nat.le_trans (Po.favs_length l k) hk
theorem band_fav {l : List Int} {many : Nat} (hm : many ≤ 15) {x : List UInt8} (h : fav l many = some x) (r : List UInt8) : bandR l.length (x ++ r) = .ok (l, r) := by
  unfold fav at h
  split at h
  · cases h
  · rename_i hne
    have hnd := (Po.favs_facts l many).1
    have hfl := favs_bound l many hm
    generalize Po.favs l many = fs at *
    cases ha : short fs with
    | none => rw [ha] at h; cases h
    | some a =>
      rw [ha] at h
      cases hb : short (Po.tokens fs l) with
      | none => rw [hb] at h; cases h
      | some b =>
        rw [hb] at h
        cases hc : short (Po.left fs l) with
        | none => rw [hc] at h; cases h
        | some c =>
          rw [hc] at h
          simp only [Option.some.injEq] at h
          have hpos : 1 ≤ fs.length := List.length_pos_iff.2 hne
          rw [← h]
          show bandR l.length (255 :: UInt8.ofNat fs.length :: (a ++ b ++ c) ++ r) = _
          have e : (255 : UInt8) :: UInt8.ofNat fs.length :: (a ++ b ++ c) ++ r = 255 :: UInt8.ofNat fs.length :: (a ++ (b ++ (c ++ r))) := by simp [List.append_assoc]
          rw [e, bandR_join, joinR_cons (by rw [ofNat_lt (by omega)]; omega), ofNat_lt (by omega)]
          obtain ⟨_, _, _, _, n1, _⟩ := next_short ha (b ++ (c ++ r))
          obtain ⟨_, _, _, _, n2, _⟩ := next_short hb (c ++ r)
          obtain ⟨_, _, _, _, n3, _⟩ := next_short hc r
          rw [n1]
          dsimp only
          rw [show l.length = (Po.tokens fs l).length from by unfold Po.tokens; rw [List.length_map], n2]
          dsimp only
          rw [Po.count_tokens, n3]
          dsimp only
          rw [if_pos (Po.back_err hnd l), Po.back_out hnd l]
/-- What is written is read as it was. -/
theorem band_back {l : List Int} {x : List UInt8} (h : bandW l = some x) (r : List UInt8) : bandR l.length (x ++ r) = .ok (l, r) := by
  unfold bandW at h
  cases hs : short l with
  | none => rw [hs] at h; cases h
  | some s =>
    rw [hs] at h
    simp only [Option.map_some, Option.some.injEq] at h
    have h0 : bandR l.length (s ++ r) = .ok (l, r) := by
      obtain ⟨k, b, rfl, hk, _, h2⟩ := next_short hs r
      have hne : UInt8.ofNat k ≠ 255 := fun e => by
        have h3 := congrArg UInt8.toNat e
        rw [ofNat_lt (by omega)] at h3
        have h4 : (255 : UInt8).toNat = 255 := rfl
        omega
      rw [List.cons_append, bandR_cons hne, ofNat_lt (by omega)]
      exact h2
    have hb : ∀ (best : List UInt8) (m : Nat), m ≤ 15 → bandR l.length (best ++ r) = .ok (l, r) → bandR l.length (better best (fav l m) ++ r) = .ok (l, r) := fun best m hm hbst => by
      cases hf : fav l m with
      | none => exact hbst
      | some y =>
        unfold better
        dsimp only
        split
        · exact band_fav hm hf r
        · exact hbst
    split at h
    · rw [← h]; exact h0
    · rw [← h]
      exact hb _ 15 (by decide) (hb _ 3 (by decide) (hb _ 1 (by decide) h0))
theorem better_le (best : List UInt8) (o : Option (List UInt8)) : (better best o).length ≤ best.length := by
  unfold better
  cases o with
  | none => exact Nat.le_refl _
  | some b => dsimp only; split <;> omega
/-- It is no longer than by any coding alone. -/
theorem band_short {l : List Int} {x : List UInt8} (h : bandW l = some x) {i : Nat} {c : Cod} {b : List UInt8} (hc : cods[i]? = some c) (hr : c.row 0 l = some b) : x.length ≤ b.length + 1 := by
  unfold bandW at h
  cases hs : short l with
  | none => rw [hs] at h; cases h
  | some s =>
    rw [hs] at h
    simp only [Option.map_some, Option.some.injEq] at h
    have h1 := shortTo_is l 15
    rw [show shortTo l 15 = some s from hs] at h1
    have h2 := h1.2 i c b (by have := (List.getElem?_eq_some_iff.1 hc).1; rw [cods_len] at this; exact this) hc hr
    split at h
    · rw [← h]; exact h2
    · rw [← h]
      exact Nat.le_trans (better_le _ _) (Nat.le_trans (better_le _ _) (Nat.le_trans (better_le _ _) h2))
theorem row_bound (c : Cod) : ∀ (l : List Int) (last : Int) (b : List UInt8), c.row last l = some b → ∀ v ∈ l, boundI c.s v = true
  | [], _, _, _, v, hv => by cases hv
  | x :: l, last, b, h, v, hv => by
    unfold Cod.row at h
    split at h
    · rename_i hb
      cases hr : c.row x l with
      | none => rw [hr] at h; cases h
      | some b' =>
        rcases List.mem_cons.1 hv with rfl | hv
        · exact hb.1
        · exact row_bound c l x b' hr v hv
    · cases h
theorem row_some (c : Cod) (hd : c.d = 0) (hf : ∀ v, boundI c.s v = true → c.fits (plainI c.s v) = true) : ∀ (l : List Int) (last : Int), (∀ v ∈ l, boundI c.s v = true) → ∃ b, c.row last l = some b
  | [], _, _ => ⟨[], rfl⟩
  | x :: l, last, h => by
    obtain ⟨b, hb⟩ := row_some c hd hf l x fun v hv => h v (List.mem_cons_of_mem _ hv)
    have hx := h x (List.mem_cons_self ..)
    have e : c.diff last x = x := by unfold Cod.diff; rw [if_neg (by omega)]
    unfold Cod.row
    rw [e, if_pos ⟨hx, hf x hx⟩, hb]
    exact ⟨_, rfl⟩
/-- May numbers stand in a row? -/
def boundsI (l : List Int) : Bool := l.all (boundI 0) || l.all (boundI 1)
theorem short_none {l : List Int} (h : short l = none) : boundsI l = false := by
  have hs := shortTo_is l 15
  rw [show shortTo l 15 = none from h] at hs
  cases hb : boundsI l with
  | false => rfl
  | true =>
    exfalso
    unfold boundsI at hb
    rw [Bool.or_eq_true, List.all_eq_true, List.all_eq_true] at hb
    rcases hb with hb | hb
    · obtain ⟨b, hr⟩ := row_some ⟨5, 64, 0, 0⟩ rfl (fun v hv => by
        unfold boundI at hv
        simp only [if_true] at hv
        have := of_decide_eq_true hv
        unfold Cod.fits plainI Cod.reach
        rw [show min (reachU 64 (5 - 1)) 4294967296 = 4294967296 from by decide]
        exact decide_eq_true (by simp only [if_true]; omega)) l 0 hb
      rw [hs 0 ⟨5, 64, 0, 0⟩ (by decide) rfl] at hr
      cases hr
    · obtain ⟨b, hr⟩ := row_some ⟨5, 64, 1, 0⟩ rfl (fun v hv => by
        unfold boundI at hv
        simp only [show ¬ (1 : Nat) = 0 from by decide, if_false] at hv
        have := of_decide_eq_true hv
        unfold Cod.fits plainI Cod.reach
        rw [show min (reachU 64 (5 - 1)) 4294967296 = 4294967296 from by decide]
        simp only [show ¬ (1 : Nat) = 0 from by decide, if_false, show (2 : Int) ^ 1 = 2 from rfl]
        refine decide_eq_true ?_
        by_cases hv0 : v < 0
        · simp only [hv0, if_true]; omega
        · simp only [hv0, if_false]; omega) l 0 hb
      rw [hs 1 ⟨5, 64, 1, 0⟩ (by decide) rfl] at hr
      cases hr
theorem short_some {l : List Int} {x : List UInt8} (h : short l = some x) : boundsI l = true := by
  have hs := shortTo_is l 15
  rw [show shortTo l 15 = some x from h] at hs
  obtain ⟨⟨i, c, b, _, _, h3, _⟩, _⟩ := hs
  have hb := row_bound c l 0 b h3
  unfold boundsI
  rw [Bool.or_eq_true, List.all_eq_true, List.all_eq_true]
  by_cases h0 : c.s = 0
  · exact .inl fun v hv => by have := hb v hv; rwa [h0] at this
  · refine .inr fun v hv => ?_
    have := hb v hv
    unfold boundI at this ⊢
    rw [if_neg h0] at this
    rw [if_neg (by decide)]
    exact this
theorem short_bounds (l : List Int) : (short l).isSome = boundsI l := by
  cases h : short l with
  | none => rw [short_none h]; rfl
  | some x => rw [short_some h]; rfl
theorem bandW_some (l : List Int) : (bandW l).isSome = boundsI l := by
  unfold bandW
  rw [← short_bounds]
  cases short l <;> rfl
end Go.Proofs.Ytbdkoagagcemcaa

/- Layer 27 plain: texts in order, as bytes; what is written is read as it was. No program. -/
namespace Go.Proofs.Ytbdkoagagcemcaa
open Pp

/-- How many bytes two texts begin with alike. -/
def shared : List UInt8 → List UInt8 → Nat
  | a :: x, b :: y => if a = b then shared x y + 1 else 0
  | _, _ => 0
theorem shared_le_l : ∀ a b : List UInt8, shared a b ≤ a.length
  | [], b => by simp [shared]
  | a :: x, [] => by simp [shared]
  | a :: x, b :: y => by
    unfold shared
    split
    · have := shared_le_l x y; simp only [List.length_cons]; omega
    · omega
theorem shared_le_r : ∀ a b : List UInt8, shared a b ≤ b.length
  | [], b => by simp [shared]
  | a :: x, [] => by simp [shared]
  | a :: x, b :: y => by
    unfold shared
    split
    · have := shared_le_r x y; simp only [List.length_cons]; omega
    · omega
theorem shared_take : ∀ a b : List UInt8, a.take (shared a b) = b.take (shared a b)
  | [], b => by simp [shared]
  | a :: x, [] => by simp [shared]
  | a :: x, b :: y => by
    unfold shared
    split
    · rename_i h
      rw [h, List.take_succ_cons, List.take_succ_cons, shared_take x y]
    · simp
/-- The columns of texts behind another one. -/
def wBegins : List UInt8 → List (List UInt8) → List Int
  | _, [] => []
  | last, s :: l => (shared last s : Int) :: wBegins s l
def wMore : List UInt8 → List (List UInt8) → List Int
  | _, [] => []
  | last, s :: l => ((s.length - shared last s : Nat) : Int) :: wMore s l
def wTail : List UInt8 → List (List UInt8) → List UInt8
  | _, [] => []
  | last, s :: l => s.drop (shared last s) ++ wTail s l
theorem wBegins_len : ∀ (l : List (List UInt8)) (last : List UInt8), (wBegins last l).length = l.length
  | [], _ => rfl
  | s :: l, last => by simp [wBegins, wBegins_len l s]
theorem wMore_len : ∀ (l : List (List UInt8)) (last : List UInt8), (wMore last l).length = l.length
  | [], _ => rfl
  | s :: l, last => by simp [wMore, wMore_len l s]
def sumL (l : List (List UInt8)) : Nat := (l.map List.length).sum
/-- Each behind the one ahead of it. -/
def risesL : List (List UInt8) → Prop
  | [] => True
  | [_] => True
  | a :: b :: l => a < b ∧ risesL (b :: l)
instance decRises : ∀ l : List (List UInt8), Decidable (risesL l)
  | [] => .isTrue trivial
  | [_] => .isTrue trivial
  | a :: b :: l => by
    unfold risesL
    have := decRises (b :: l)
    infer_instance
/-- Why texts aren't written, or nought. -/
def wordsE (l : List (List UInt8)) : Int := if 16777216 ≤ l.length then 4 else if ¬ risesL l then 2 else if 16777216 < sumL l then 3 else 0
def join3 : Option (List UInt8) → Option (List UInt8) → Option (List UInt8) → List UInt8 → Option (List UInt8)
  | some a, some b, some c, d => some (a ++ b ++ c ++ d)
  | _, _, _, _ => none
theorem join3_some : ∀ {a b c : Option (List UInt8)} {d x : List UInt8}, join3 a b c d = some x → ∃ a' b' c', a = some a' ∧ b = some b' ∧ c = some c' ∧ x = a' ++ b' ++ c' ++ d
  | some a, some b, some c, d, x, h => ⟨a, b, c, rfl, rfl, rfl, (Option.some.inj h).symm⟩
  | none, _, _, _, _, h => by simp [join3] at h
  | some _, none, _, _, _, h => by simp [join3] at h
  | some _, some _, none, _, _, h => by simp [join3] at h
def wordsB (l : List (List UInt8)) : Option (List UInt8) := join3 (bandW [(l.length : Int)]) (bandW (wBegins [] l)) (bandW (wMore [] l)) (wTail [] l)
/-- A band of so many numbers, that may be too many. -/
def bandN (n : Int) (r : List UInt8) : Except Int (List Int × List UInt8) := if n < 0 ∨ 16777216 < n then .error 1 else bandR n.toNat r
/-- The texts, by their columns: behind the last one, with so many bytes told. -/
def wGo (most : Int) (first : Bool) (last : List UInt8) (sum : Int) : List Int → List Int → List UInt8 → Except Int (List (List UInt8) × List UInt8)
  | n :: ns, m :: ms, r =>
    if n < 0 ∨ (last.length : Int) < n ∨ m < 0 then .error 2
    else if most < sum + (n + m) then .error 3
    else if (r.length : Int) < m then .error 6
    else if first = false ∧ ¬ last < last.take n.toNat ++ r.take m.toNat then .error 2
    else match wGo most false (last.take n.toNat ++ r.take m.toNat) (sum + (n + m)) ns ms (r.drop m.toNat) with
      | .error e => .error e
      | .ok (l, r') => .ok ((last.take n.toNat ++ r.take m.toNat) :: l, r')
  | [], _, r => .ok ([], r)
  | _, [], r => .ok ([], r)
def wordsR (most : Int) (r : List UInt8) : Except Int (List (List UInt8) × List UInt8) :=
  if most < 0 ∨ 16777216 < most then .error 1 else
  match bandR 1 r with
  | .error e => .error e
  | .ok (k, r0) => match bandN (k.getD 0 0) r0 with
    | .error e => .error e
    | .ok (ns, r1) => match bandN (k.getD 0 0) r1 with
      | .error e => .error e
      | .ok (ms, r2) => wGo most true [] 0 ns ms r2
theorem wGo_back (most : Int) : ∀ (l : List (List UInt8)) (first : Bool) (last : List UInt8) (sum : Int) (r : List UInt8), (first = true → True) → (first = false → risesL (last :: l)) → risesL l → sum + (sumL l : Int) ≤ most → wGo most first last sum (wBegins last l) (wMore last l) (wTail last l ++ r) = .ok (l, r)
  | [], first, last, sum, r, _, _, _, _ => by simp [wBegins, wGo, wTail]
  | s :: l, first, last, sum, r, _, h2, h3, h4 => by
    have hl := shared_le_l last s
    have hr := shared_le_r last s
    have hsum : sumL (s :: l) = s.length + sumL l := by simp [sumL]
    have htk : last.take (shared last s) ++ (s.drop (shared last s) ++ wTail s l ++ r).take (s.length - shared last s) = s := by
      have e1 : (s.drop (shared last s)).take (s.length - shared last s) = s.drop (shared last s) := List.take_of_length_le (by rw [List.length_drop]; exact Nat.le_refl _)
      rw [shared_take, List.append_assoc, List.take_append_of_le_length (by rw [List.length_drop]; exact Nat.le_refl _), e1, List.take_append_drop]
    have hdr : (s.drop (shared last s) ++ wTail s l ++ r).drop (s.length - shared last s) = wTail s l ++ r := by
      have e1 : (s.drop (shared last s)).drop (s.length - shared last s) = [] := List.drop_of_length_le (by rw [List.length_drop]; exact Nat.le_refl _)
      rw [List.append_assoc, List.drop_append_of_le_length (by rw [List.length_drop]; exact Nat.le_refl _), e1, List.nil_append]
    have hrest : risesL l := by
      cases l with
      | nil => trivial
      | cons b l => exact h3.2
    unfold wBegins wMore wTail
    unfold wGo
    rw [if_neg (by omega), if_neg (by rw [hsum] at h4; omega), if_neg (by simp only [List.length_append, List.length_drop]; omega)]
    simp only [Int.toNat_natCast]
    rw [htk, hdr, if_neg (fun h => h.2 (h2 h.1).1), wGo_back most l false s _ r (fun h => by cases h) (fun _ => h3) hrest (by rw [hsum] at h4; omega)]
theorem bandN_back {l : List Int} {x : List UInt8} (h : bandW l = some x) (hl : l.length ≤ 16777216) (r : List UInt8) : bandN (l.length : Int) (x ++ r) = .ok (l, r) := by
  unfold bandN
  rw [if_neg (by omega), Int.toNat_natCast]
  exact band_back h r
theorem wordsE_zero {l : List (List UInt8)} (h : wordsE l = 0) : l.length < 16777216 ∧ risesL l := by
  unfold wordsE at h
  by_cases h1 : 16777216 ≤ l.length
  · rw [if_pos h1] at h
    exact absurd h (by decide)
  · rw [if_neg h1] at h
    by_cases h2 : risesL l
    · exact ⟨Nat.lt_of_not_le h1, h2⟩
    · rw [if_pos h2] at h
      exact absurd h (by decide)
theorem wordsB_some {l : List (List UInt8)} {x : List UInt8} (h : wordsB l = some x) : ∃ a b c, bandW [(l.length : Int)] = some a ∧ bandW (wBegins [] l) = some b ∧ bandW (wMore [] l) = some c ∧ x = a ++ b ++ c ++ wTail [] l := join3_some h
theorem wordsR_eq {most : Int} (hm : ¬ (most < 0 ∨ 16777216 < most)) {x r0 r1 r2 : List UInt8} {k ns ms : List Int} (h1 : bandR 1 x = .ok (k, r0)) (h2 : bandN (k.getD 0 0) r0 = .ok (ns, r1)) (h3 : bandN (k.getD 0 0) r1 = .ok (ms, r2)) : wordsR most x = wGo most true [] 0 ns ms r2 := by
  unfold wordsR
  rw [if_neg hm, h1]
  dsimp only
  rw [h2]
  dsimp only
  rw [h3]
theorem head_len {most : Int} (hm0 : 0 ≤ most) (hmost : most ≤ 16777216) : ¬ (most < 0 ∨ 16777216 < most) := by omega
/-- The first three bands of what is written. -/
theorem words_head {l : List (List UInt8)} {x : List UInt8} (h : wordsB l = some x) (hlen : l.length < 16777216) {most : Int} (hm0 : 0 ≤ most) (hmost : most ≤ 16777216) (r : List UInt8) : wordsR most (x ++ r) = wGo most true [] 0 (wBegins [] l) (wMore [] l) (wTail [] l ++ r) := by
  obtain ⟨a, b, c, ha, hb, hc, rfl⟩ := wordsB_some h
  have e : a ++ b ++ c ++ wTail [] l ++ r = a ++ (b ++ (c ++ (wTail [] l ++ r))) := by simp only [List.append_assoc]
  have h1 : bandR 1 (a ++ (b ++ (c ++ (wTail [] l ++ r)))) = _ := band_back ha _
  have h2 := bandN_back hb (by rw [wBegins_len]; exact Nat.le_of_lt hlen) (c ++ (wTail [] l ++ r))
  rw [wBegins_len] at h2
  have h3 := bandN_back hc (by rw [wMore_len]; exact Nat.le_of_lt hlen) (wTail [] l ++ r)
  rw [wMore_len] at h3
  rw [e]
  exact wordsR_eq (head_len hm0 hmost) h1 h2 h3
/-- What is written is read as it was, by just that room or more. -/
theorem words_back {l : List (List UInt8)} {x : List UInt8} (h : wordsB l = some x) (he : wordsE l = 0) {most : Int} (hm : (sumL l : Int) ≤ most) (hmost : most ≤ 16777216) (r : List UInt8) : wordsR most (x ++ r) = .ok (l, r) := by
  obtain ⟨hlen, hris⟩ := wordsE_zero he
  rw [words_head h hlen (by omega) hmost r]
  exact wGo_back most l true [] 0 r (fun _ => trivial) (fun h => by cases h) hris (by omega)
/-- By less room it isn't. -/
theorem wGo_less (most : Int) : ∀ (l : List (List UInt8)) (first : Bool) (last : List UInt8) (sum : Int) (r : List UInt8), (first = false → risesL (last :: l)) → risesL l → sum ≤ most → most < sum + (sumL l : Int) → wGo most first last sum (wBegins last l) (wMore last l) (wTail last l ++ r) = .error 3
  | [], first, last, sum, r, _, _, h3, h4 => by simp [sumL] at h4; omega
  | s :: l, first, last, sum, r, h2, h3, h5, h4 => by
    have hl := shared_le_l last s
    have hr := shared_le_r last s
    have hsum : sumL (s :: l) = s.length + sumL l := by simp [sumL]
    have e0 : (s.drop (shared last s)).take (s.length - shared last s) = s.drop (shared last s) := List.take_of_length_le (by rw [List.length_drop]; exact Nat.le_refl _)
    have htk : last.take (shared last s) ++ (s.drop (shared last s) ++ wTail s l ++ r).take (s.length - shared last s) = s := by
      rw [shared_take, List.append_assoc, List.take_append_of_le_length (by rw [List.length_drop]; exact Nat.le_refl _), e0, List.take_append_drop]
    have e1 : (s.drop (shared last s)).drop (s.length - shared last s) = [] := List.drop_of_length_le (by rw [List.length_drop]; exact Nat.le_refl _)
    have hdr : (s.drop (shared last s) ++ wTail s l ++ r).drop (s.length - shared last s) = wTail s l ++ r := by
      rw [List.append_assoc, List.drop_append_of_le_length (by rw [List.length_drop]; exact Nat.le_refl _), e1, List.nil_append]
    have hrest : risesL l := by
      cases l with
      | nil => trivial
      | cons b l => exact h3.2
    unfold wBegins wMore wTail
    unfold wGo
    rw [if_neg (by omega)]
    by_cases h6 : most < sum + (((shared last s : Nat) : Int) + ((s.length - shared last s : Nat) : Int))
    · rw [if_pos h6]
    · rw [if_neg h6, if_neg (by simp only [List.length_append, List.length_drop]; omega)]
      simp only [Int.toNat_natCast]
      rw [htk, hdr, if_neg (fun h => h.2 (h2 h.1).1), wGo_less most l false s _ r (fun _ => h3) hrest (by omega) (by rw [hsum] at h4; omega)]
theorem words_less {l : List (List UInt8)} {x : List UInt8} (h : wordsB l = some x) (he : wordsE l = 0) {most : Int} (hm0 : 0 ≤ most) (hm : most < (sumL l : Int)) (hmost : most ≤ 16777216) (r : List UInt8) : wordsR most (x ++ r) = .error 3 := by
  obtain ⟨hlen, hris⟩ := wordsE_zero he
  rw [words_head h hlen hm0 hmost r]
  exact wGo_less most l true [] 0 r (fun h => by cases h) hris hm0 (by omega)
end Go.Proofs.Ytbdkoagagcemcaa

/- The walks of layer 27: how many bytes two texts begin with alike; whether a list may be. -/
namespace Go.Proofs.Ytbdkoagagcemcaa
open Go.RowKit

theorem wd_index (l : List UInt8) (i : Nat) (c : UInt8) (h : l[i]? = some c) (k : IntKind) (n : Int) (hn : n = (i : Int)) (x : World) : (Instr.index 9 (.string (bs l)) (.int k n)).run Try.prog x = .ok (.int .u8 (c.toNat : Int)) x := by
  subst hn
  obtain ⟨h1, rfl⟩ := List.getElem?_eq_some_iff.1 h
  have hz := bs_size l
  rw [run_index_string x _ _ _ _ (by kernel_rfl), dif_pos (by omega : 0 ≤ (i : Int) ∧ (i : Int) < (bs l).size)]
  rfl
theorem wd_less (a b : List UInt8) : Op.bytesLess (bs a).toList (bs b).toList = decide (a < b) := by
  rw [bs_list, bs_list, bytesLess_eq]
theorem drop_atW {α : Type} {l : List α} {i : Nat} {x : α} (h : l[i]? = some x) : l.drop i = x :: l.drop (i + 1) := by
  obtain ⟨h3, rfl⟩ := List.getElem?_eq_some_iff.1 h
  exact List.drop_eq_getElem_cons h3
theorem shared_eq (x : UInt8) (l m : List UInt8) : shared (x :: l) (x :: m) = shared l m + 1 := by
  conv => lhs; unfold shared
  rw [if_pos rfl]
theorem shared_ne {x y : UInt8} (h : x ≠ y) (l m : List UInt8) : shared (x :: l) (y :: m) = 0 := by
  conv => lhs; unfold shared
  rw [if_neg h]
set_option maxHeartbeats 4000000 in
set_option maxRecDepth 100000 in
theorem shared_any (a b : List UInt8) (w : World) (ha : a.length ≤ 1000000000) (_hb : b.length ≤ 1000000000) :
    Calls Try.prog 48 #[.string (bs a), .string (bs b)] w fun ex y => ex = .returned (.int .i64 (shared a b : Nat)) ∧ Below w.heap.size w y := by
  have hsa := bs_size a
  have hsb := bs_size b
  go_enter Try.func48, Try.ntmps48
  go_wp2_with fail
  go_loopw [5] (fun t wr => ∃ n : Nat, n ≤ a.length ∧ n ≤ b.length ∧ t = .int .i64 n ∧ shared a b = n + shared (a.drop n) (b.drop n) ∧ Below w.heap.size w wr) (fun t _ => a.length - (intOf t).toNat)
  case atStart => exact ⟨0, Nat.zero_le _, Nat.zero_le _, rfl, by simp, Below.refl _ _⟩
  case round =>
    obtain ⟨n, hna, hnb, rfl, hs, hB⟩ := hrel
    have HB := Lib.hid hB
    have HS := Lib.hid hs
    clear hB hs
    by_cases h1 : n < a.length
    · obtain ⟨x, hx⟩ : ∃ x, a[n]? = some x := ⟨_, List.getElem?_eq_getElem h1⟩
      have p1 : decide ((n : Int) < (a.length : Int)) = true := decide_eq_true (by omega)
      by_cases h2 : n < b.length
      · obtain ⟨y, hy⟩ : ∃ y, b[n]? = some y := ⟨_, List.getElem?_eq_getElem h2⟩
        have p2 : decide ((n : Int) < (b.length : Int)) = true := decide_eq_true (by omega)
        have i1 := fun k w => wd_index a n x hx k (n : Int) rfl w
        have i2 := fun k w => wd_index b n y hy k (n : Int) rfl w
        have hd := HS.out
        rw [drop_atW hx, drop_atW hy] at hd
        by_cases hxy : x = y
        · subst hxy
          have q : ((x.toNat : Int) == (x.toNat : Int)) = true := by simp
          have hs2 := Lib.hid (show shared a b = (n + 1) + shared (a.drop (n + 1)) (b.drop (n + 1)) by rw [hd, shared_eq]; omega)
          clear hd hx hy
          go_wp2_with fail
          refine wp_region_grow (by kernel_rfl) (by kernel_rfl) ?_
          repeat (go_big_quiet_step (fail))
          refine wpQuiet_nil ?_
          intro g1
          obtain ⟨w1, hb1⟩ := g1
          have HB2 := Lib.hid (Below.after' HB.out hb1 (Nat.le_refl _))
          dsimp only
          clear hb1
          go_wp2_with fail
          go_roundw
          case rel => exact ⟨n + 1, by omega, by omega, by go_num, hs2.out, HB2.out⟩
          case measure => simp [intOf]; omega
        · have q : ((x.toNat : Int) == (y.toNat : Int)) = false := by
            simp only [beq_eq_false_iff_ne, ne_eq, Int.natCast_inj]
            exact fun e => hxy (UInt8.toNat_inj.1 e)
          have hs2 := Lib.hid (show shared a b = n by rw [hd, shared_ne hxy]; omega)
          clear hd hx hy hxy
          go_wp2_with fail
          refine wp_region_grow (by kernel_rfl) (by kernel_rfl) ?_
          repeat (go_big_quiet_step (fail))
          refine wpQuiet_nil ?_
          intro g1
          obtain ⟨w1, hb1⟩ := g1
          have HB2 := Lib.hid (Below.after' HB.out hb1 (Nat.le_refl _))
          dsimp only
          clear hb1
          go_wp2_with fail
          go_ret
          exact ⟨by rw [hs2.out]; rfl, HB2.out⟩
      · have p2 : decide ((n : Int) < (b.length : Int)) = false := decide_eq_false (by omega)
        have hs2 := Lib.hid (show shared a b = n by rw [HS.out, List.drop_of_length_le (l := b) (by omega)]; cases a.drop n <;> simp [shared])
        clear hx
        go_wp2_with fail
        refine wp_region_grow (by kernel_rfl) (by kernel_rfl) ?_
        repeat (go_big_quiet_step (fail))
        refine wpQuiet_nil ?_
        intro g1
        obtain ⟨w1, hb1⟩ := g1
        have HB2 := Lib.hid (Below.after' HB.out hb1 (Nat.le_refl _))
        dsimp only
        clear hb1
        go_wp2_with fail
        go_ret
        exact ⟨by rw [hs2.out]; rfl, HB2.out⟩
    · have p1 : decide ((n : Int) < (a.length : Int)) = false := decide_eq_false (by omega)
      have hs2 := Lib.hid (show shared a b = n by rw [HS.out, List.drop_of_length_le (l := a) (by omega)]; simp [shared])
      go_wp2_with fail
      refine wp_region_grow (by kernel_rfl) (by kernel_rfl) ?_
      repeat (go_big_quiet_step (fail))
      refine wpQuiet_nil ?_
      intro g1
      obtain ⟨w1, hb1⟩ := g1
      have HB2 := Lib.hid (Below.after' HB.out hb1 (Nat.le_refl _))
      dsimp only
      clear hb1
      go_wp2_with fail
      go_ret
      exact ⟨by rw [hs2.out]; rfl, HB2.out⟩
theorem risesL_cons {a : List UInt8} {l : List (List UInt8)} : risesL (a :: l) ↔ (∀ b, l.head? = some b → a < b) ∧ risesL l := by
  cases l with
  | nil => simp [risesL]
  | cons b l => simp [risesL]
/-- Do the first i rise? -/
theorem rises_take_succ {l : List (List UInt8)} {i : Nat} {s : List UInt8} (hi : l[i]? = some s) : risesL (l.take (i + 1)) ↔ risesL (l.take i) ∧ ∀ j p, i = j + 1 → l[j]? = some p → p < s := by
  induction l generalizing i with
  | nil => simp at hi
  | cons a l ih =>
    cases i with
    | zero => simp [risesL]
    | succ i =>
      rw [List.take_succ_cons, List.take_succ_cons, risesL_cons, risesL_cons, ih (by simpa using hi)]
      cases i with
      | zero =>
        cases l with
        | nil => simp at hi
        | cons b l =>
          simp at hi
          subst hi
          simp [risesL]
          constructor
          · rintro h j p hj hp
            subst hj
            simp at hp
            subst hp
            exact h
          · intro h
            exact h 0 a rfl (by simp)
      | succ i =>
        have hne : ∀ n, (l.take (n + 1)).head? = l.head? := fun n => by cases l <;> simp
        rw [hne, hne]
        constructor
        · rintro ⟨h1, h2, h3⟩
          refine ⟨⟨h1, h2⟩, fun j p hj hp => ?_⟩
          obtain ⟨k, rfl⟩ : ∃ k, j = k + 1 := ⟨j - 1, by omega⟩
          exact h3 k p (by omega) (by simpa using hp)
        · rintro ⟨⟨h1, h2⟩, h3⟩
          exact ⟨h1, h2, fun j p hj hp => h3 (j + 1) p (by omega) (by simpa using hp)⟩
theorem sumL_take_succ {l : List (List UInt8)} {i : Nat} {s : List UInt8} (hi : l[i]? = some s) : sumL (l.take (i + 1)) = sumL (l.take i) + s.length := by
  obtain ⟨h1, rfl⟩ := List.getElem?_eq_some_iff.1 hi
  unfold sumL
  rw [List.take_succ_eq_append_getElem h1, List.map_append, List.sum_append]
  simp
theorem sumL_take_le (l : List (List UInt8)) (i : Nat) : sumL (l.take i) ≤ sumL l := by
  have h : sumL l = sumL (l.take i) + sumL (l.drop i) := by
    unfold sumL
    rw [← List.sum_append, ← List.map_append, List.take_append_drop]
  omega
theorem rises_take_of {l : List (List UInt8)} (h : risesL l) : ∀ i, risesL (l.take i)
  | 0 => by simp [risesL]
  | i + 1 => by
    cases l with
    | nil => simp [risesL]
    | cons a l =>
      rw [List.take_succ_cons, risesL_cons]
      rw [risesL_cons] at h
      refine ⟨fun b hb => h.1 b ?_, rises_take_of h.2 i⟩
      cases i with
      | zero => simp at hb
      | succ i => cases l <;> simp_all
end Go.Proofs.Ytbdkoagagcemcaa

/- The walk of layer 27: whether a list may be. -/
namespace Go.Proofs.Ytbdkoagagcemcaa
open Go.RowKit

set_option maxHeartbeats 4000000 in
set_option maxRecDepth 100000 in
theorem wcheck_any (A : Option Addr) (c : Nat) (l : List (List UInt8)) (w : World) (hx : Txt w A c l) (hl : l.length ≤ 1000000) (hs : sumL l ≤ 1000000000) :
    Calls Try.prog 47 #[.slice A l.length c] w fun ex y => ex = .returned (.int .i64 (wordsE l)) ∧ y = w := by
  have HX := Lib.hid hx
  have hE := Lib.hid (show wordsE l = if ¬ risesL l then 2 else if 16777216 < sumL l then 3 else 0 by unfold wordsE; rw [if_neg (by omega)])
  have p0 : decide ((16777216 : Int) ≤ (l.length : Int)) = false := decide_eq_false (by omega)
  have p00 : decide (16777216 ≤ l.length) = false := decide_eq_false (by omega)
  clear hx
  go_enter Try.func47, Try.ntmps47
  go_wp2_with fail
  go_loop [3, 11] (fun s t => ∃ i : Nat, i ≤ l.length ∧ t = .int .i64 i ∧ s = .int .i64 (sumL (l.take i) : Nat) ∧ risesL (l.take i)) (fun _ t => l.length - (intOf t).toNat)
  case atStart => exact ⟨0, Nat.zero_le _, rfl, rfl, by simp [risesL]⟩
  case round =>
    obtain ⟨i, hi, rfl, rfl, hr⟩ := hrel
    have hsl := sumL_take_le l i
    have HR := Lib.hid hr
    clear hr
    by_cases h1 : i < l.length
    · obtain ⟨g, o, s, rfl, hg, hsi, hct⟩ := HX.out.at_ h1
      have hst := Lib.hid (rises_take_succ hsi)
      have hsum := Lib.hid (sumL_take_succ hsi)
      have hsl2 := sumL_take_le l (i + 1)
      rw [hsum.out] at hsl2
      have hsz := bs_size s
      have p1 : decide ((i : Int) < (l.length : Int)) = true := decide_eq_true (by omega)
      by_cases h0 : i = 0
      · have q0 : decide ((0 : Int) < (i : Int)) = false := decide_eq_false (by omega)
        have q00 : decide (0 < i) = false := decide_eq_false (by omega)
        have hr2 := Lib.hid (hst.out.2 ⟨HR.out, fun j p h => by omega⟩)
        clear hst hsi h0
        generalize hS : sumL (l.take i) = S0 at *
        have hsum2 := hsum
        clear hS
        go_wp2_with fail
        go_round
        case rel => exact ⟨i + 1, by omega, by go_num, by rw [hsum2.out]; go_num, hr2.out⟩
        case measure => simp [intOf]; omega
      · obtain ⟨j, hj⟩ : ∃ j, i = j + 1 := ⟨i - 1, by omega⟩
        have q0 : decide ((0 : Int) < (i : Int)) = true := decide_eq_true (by omega)
        have q00 : decide (0 < i) = true := decide_eq_true (by omega)
        obtain ⟨p, hp⟩ : ∃ p, l[j]? = some p := ⟨_, List.getElem?_eq_getElem (by omega)⟩
        have hcp : w.cell? ⟨g, o + j, none⟩ = some (.string (bs p)) := by
          obtain ⟨g', o', e', _, hc'⟩ := HX.out.2 (by omega)
          cases e'
          exact hc' j p hp
        have ej : (i : Int) - 1 = (j : Int) := by omega
        have hjl : j < l.length := by omega
        have hle := wd_less p s
        have HJ := Lib.hid hj
        by_cases hlt : p < s
        · have q : Op.bytesLess (bs p).toList (bs s).toList = true := by rw [hle]; exact decide_eq_true hlt
          have hr2 := Lib.hid (hst.out.2 ⟨HR.out, fun k p' h hp' => by
            obtain rfl : k = j := by omega
            rw [hp] at hp'
            cases hp'
            exact hlt⟩)
          clear hst hsi hp hle hlt h0 hj
          generalize hS : sumL (l.take i) = S0 at *
          have hsum2 := hsum
          clear hS
          go_wp2_with fail
          go_round
          case rel => exact ⟨i + 1, by omega, by go_num, by rw [hsum2.out]; go_num, hr2.out⟩
          case measure => simp [intOf]; omega
        · have q : Op.bytesLess (bs p).toList (bs s).toList = false := by rw [hle]; exact decide_eq_false hlt
          have hfin := Lib.hid (show wordsE l = 2 by
            rw [hE.out, if_pos]
            intro hrl
            exact hlt ((hst.out.1 (rises_take_of hrl _)).2 j p hj hp))
          clear hst hsi hp hle hlt h0 hj
          go_wp2_with fail
          go_ret
          exact ⟨by rw [hfin.out]; rfl, rfl⟩
    · have hii : i = l.length := by omega
      subst hii
      have ht : l.take l.length = l := List.take_length
      have hr := HR.out
      rw [ht] at hr
      by_cases hb : 16777216 < sumL l
      · have q : decide ((16777216 : Int) < (sumL (l.take l.length) : Int)) = true := by rw [ht]; exact decide_eq_true (by omega)
        have q2 : decide (16777216 < sumL (l.take l.length)) = true := by rw [ht]; exact decide_eq_true hb
        have q5 : decide ((16777216 : Int) < (sumL l : Int)) = true := decide_eq_true (by omega)
        have q6 : decide (16777216 < sumL l) = true := decide_eq_true hb
        have hfin := Lib.hid (show wordsE l = 3 by rw [hE.out, if_neg (fun h => h hr), if_pos hb])
        clear hr ht hb
        go_wp2_with fail
        go_ret
        exact ⟨by rw [hfin.out]; rfl, rfl⟩
      · have q : decide ((16777216 : Int) < (sumL (l.take l.length) : Int)) = false := by rw [ht]; exact decide_eq_false (by omega)
        have q2 : decide (16777216 < sumL (l.take l.length)) = false := by rw [ht]; exact decide_eq_false hb
        have q5 : decide ((16777216 : Int) < (sumL l : Int)) = false := decide_eq_false (by omega)
        have q6 : decide (16777216 < sumL l) = false := decide_eq_false hb
        have hfin := Lib.hid (show wordsE l = 0 by rw [hE.out, if_neg (fun h => h hr), if_neg hb])
        clear hr ht hb
        go_wp2_with fail
        go_ret
        exact ⟨by rw [hfin.out]; rfl, rfl⟩
end Go.Proofs.Ytbdkoagagcemcaa

/- Layer 26 plain: how long a band is; the law's reading is the program's. No program. -/
namespace Go.Proofs.Ytbdkoagagcemcaa
open Pp

theorem putU_le (h : Nat) : ∀ (k u : Nat), (putU h k u).length ≤ k + 1
  | 0, u => by simp [putU]
  | k + 1, u => by
    have := putU_le h k ((u - (256 - h)) / h)
    unfold putU
    split
    · simp
    · simp only [List.length_cons]; omega
theorem row_le (c : Cod) (hc : 1 ≤ c.b) : ∀ (l : List Int) (last : Int) (b : List UInt8), c.row last l = some b → b.length ≤ c.b * l.length
  | [], last, b, h => by
    simp only [Cod.row, Option.some.injEq] at h
    subst h
    simp
  | v :: l, last, b, h => by
    unfold Cod.row at h
    split at h
    · cases hr : c.row v l with
      | none => rw [hr] at h; cases h
      | some b' =>
        rw [hr] at h
        simp only [Option.map_some, Option.some.injEq] at h
        subst h
        have h1 := row_le c hc l v b' hr
        have h2 := putU_le c.h (c.b - 1) (plainI c.s (c.diff last v)).toNat
        rw [List.length_append, List.length_cons, Nat.mul_add, Nat.mul_one]
        omega
    · cases h
/-- A row in bounds is written by one of the first two codings. -/
theorem row_first {l : List Int} (hb : boundsI l = true) : ∃ (i : Nat) (c : Cod) (b : List UInt8), cods[i]? = some c ∧ c.b = 5 ∧ c.row 0 l = some b := by
  unfold boundsI at hb
  rw [Bool.or_eq_true, List.all_eq_true, List.all_eq_true] at hb
  rcases hb with hb | hb
  · obtain ⟨b, hr⟩ := row_some ⟨5, 64, 0, 0⟩ rfl (fun v hv => by
      unfold boundI at hv
      simp only [if_true] at hv
      have := of_decide_eq_true hv
      unfold Cod.fits plainI Cod.reach
      rw [show min (reachU 64 (5 - 1)) 4294967296 = 4294967296 from by decide]
      exact decide_eq_true (by simp only [if_true]; omega)) l 0 hb
    exact ⟨0, _, b, rfl, rfl, hr⟩
  · obtain ⟨b, hr⟩ := row_some ⟨5, 64, 1, 0⟩ rfl (fun v hv => by
      unfold boundI at hv
      simp only [show ¬ (1 : Nat) = 0 from by decide, if_false] at hv
      have := of_decide_eq_true hv
      unfold Cod.fits plainI Cod.reach
      rw [show min (reachU 64 (5 - 1)) 4294967296 = 4294967296 from by decide]
      simp only [show ¬ (1 : Nat) = 0 from by decide, if_false, show (2 : Int) ^ 1 = 2 from rfl]
      refine decide_eq_true ?_
      by_cases hv0 : v < 0
      · simp only [hv0, if_true]; omega
      · simp only [hv0, if_false]; omega) l 0 hb
    exact ⟨1, _, b, rfl, rfl, hr⟩
theorem bandW_len {l : List Int} {x : List UInt8} (h : bandW l = some x) : x.length ≤ 5 * l.length + 1 := by
  have hb : boundsI l = true := by
    rw [← bandW_some, h]
    rfl
  obtain ⟨i, c, b, h1, h2, h3⟩ := row_first hb
  have h4 := band_short h h1 h3
  have h5 := row_le c (by omega) l 0 b h3
  rw [h2] at h5
  omega
/-- What is read is no more than its bytes. -/
theorem read_len (c : Cod) : ∀ (n : Nat) (last : Int) (r : List UInt8) (q : List Int × List UInt8), c.read n last r = .ok q → q.1.length = n
  | 0, last, r, q, h => by
    simp only [Cod.read, Except.ok.injEq] at h
    subst h
    rfl
  | n + 1, last, r, q, h => by
    unfold Cod.read at h
    cases hg : c.get r with
    | error e => rw [hg] at h; cases h
    | ok p =>
      obtain ⟨v, r1⟩ := p
      rw [hg] at h
      dsimp only at h
      split at h
      · cases hr : c.read n (c.sum last v) r1 with
        | error e => rw [hr] at h; cases h
        | ok p =>
          obtain ⟨vs, r2⟩ := p
          rw [hr] at h
          simp only [Except.ok.injEq] at h
          subst h
          have := read_len c n _ _ _ hr
          simp only [List.length_cons]
          dsimp only at this
          omega
      · cases h
end Go.Proofs.Ytbdkoagagcemcaa

/- Plain laws on masks of int and of uint16; no program. -/
namespace Go.Proofs.Ytbdkoagagcemcaa
open Go.RowKit

theorem i64_mask (k : Nat) (hk : k ≤ 62) (n : Int) : bits .and .i64 n ((2 ^ k - 1 : Nat) : Int) = n % ((2 ^ k : Nat) : Int) := by
  have hp : 0 < 2 ^ k := Nat.two_pow_pos k
  have hb : (2 ^ k : Nat) ≤ 2 ^ 62 := Nat.pow_le_pow_right (by decide) hk
  have h1 : (BitVec.ofInt 64 ((2 ^ k - 1 : Nat) : Int)).toNat = 2 ^ k - 1 := by
    rw [BitVec.ofInt_natCast, BitVec.toNat_ofNat]; apply Nat.mod_eq_of_lt; have : (2:Nat) ^ 62 < 2 ^ 64 := by decide
    omega
  have key : (BitVec.ofInt 64 n &&& BitVec.ofInt 64 ((2 ^ k - 1 : Nat) : Int)).toNat = (n % ((2 ^ 64 : Nat) : Int)).toNat % 2 ^ k := by
    rw [BitVec.toNat_and, BitVec.toNat_ofInt, h1, Nat.and_two_pow_sub_one_eq_mod]
  show IntKind.i64.wrap ((BitVec.ofInt 64 n &&& BitVec.ofInt 64 ((2 ^ k - 1 : Nat) : Int)).toNat : Nat) = _
  rw [key, IntKind.wrap_i64]
  have hd : (2 ^ k : Nat) ∣ 2 ^ 64 := Nat.pow_dvd_pow 2 (by omega)
  have hnn : 0 ≤ n % ((2 ^ 64 : Nat) : Int) := Int.emod_nonneg _ (by decide)
  have e1 : (((n % ((2 ^ 64 : Nat) : Int)).toNat % 2 ^ k : Nat) : Int) = n % ((2 ^ k : Nat) : Int) := by
    rw [Int.natCast_emod, Int.toNat_of_nonneg hnn]
    exact Int.emod_emod_of_dvd n (by exact_mod_cast hd)
  rw [e1]
  have l1 : 0 ≤ n % ((2 ^ k : Nat) : Int) := Int.emod_nonneg _ (by omega)
  have l2 : n % ((2 ^ k : Nat) : Int) < ((2 ^ k : Nat) : Int) := Int.emod_lt_of_pos _ (by omega)
  have l3 : ((2 ^ k : Nat) : Int) ≤ 4611686018427387904 := by
    have : ((2 ^ k : Nat) : Int) ≤ ((2 ^ 62 : Nat) : Int) := by exact_mod_cast hb
    simpa using this
  generalize n % ((2 ^ k : Nat) : Int) = r at *
  generalize ((2 ^ k : Nat) : Int) = q at *
  omega
theorem i64_and1 (n : Int) : bits .and .i64 n 1 = n % 2 := i64_mask 1 (by decide) n
theorem i64_and3 (n : Int) : bits .and .i64 n 3 = n % 4 := i64_mask 2 (by decide) n
theorem i64_and7 (n : Int) : bits .and .i64 n 7 = n % 8 := i64_mask 3 (by decide) n
theorem i64_and255 (n : Int) : bits .and .i64 n 255 = n % 256 := i64_mask 8 (by decide) n

theorem wraps_u16 (n : Int) (h₀ : 0 ≤ n) (h₁ : n < 2 ^ 16) : IntKind.u16.wrap n = n := by rw [IntKind.wrap_u16]; omega
theorem u16_and15 (x : Int) (h₀ : 0 ≤ x) (h₁ : x < 65536) : bits .and .u16 x 15 = x % 16 := bits_mask .u16 16 (by decide) wraps_u16 4 (by decide) x h₀ h₁
theorem u16_and31 (x : Int) (h₀ : 0 ≤ x) (h₁ : x < 65536) : bits .and .u16 x 31 = x % 32 := bits_mask .u16 16 (by decide) wraps_u16 5 (by decide) x h₀ h₁
theorem u16_and63 (x : Int) (h₀ : 0 ≤ x) (h₁ : x < 65536) : bits .and .u16 x 63 = x % 64 := bits_mask .u16 16 (by decide) wraps_u16 6 (by decide) x h₀ h₁
theorem wraps_i64 (n : Int) (h₀ : 0 ≤ n) (h₁ : n < 2 ^ 62) : IntKind.i64.wrap n = n := by rw [IntKind.wrap_i64]; omega
/-- 'x | y' where x is a multiple of 2^i and y below it. -/
theorem i64_or (i : Nat) (x y : Int) (hx₀ : 0 ≤ x) (hx : x % 2 ^ i = 0) (hx₁ : x < 2 ^ 62) (hy₀ : 0 ≤ y) (hy : y < 2 ^ i) (hy₁ : y < 2 ^ 62) : bits .or .i64 x y = x + y :=
  bits_join .i64 62 (by decide) wraps_i64 i x y hx₀ hx hx₁ hy₀ hy hy₁
end Go.Proofs.Ytbdkoagagcemcaa

/- The walks of layer 24: whether a coding may be, its reach, a number's plain one and a plain one's number. -/
namespace Go.Proofs.Ytbdkoagagcemcaa
open Go.RowKit

/-- A coding's value. -/
def Cod.val (c : Cod) : Value := .agg #[.int .i64 c.b, .int .i64 c.h, .int .i64 c.s, .int .i64 c.d]
set_option maxRecDepth 100000 in
theorem right_any (c : Cod) (hc : c.ok) (w : World) : Calls Try.prog 67 #[c.val] w fun ex y => ex = .returned (.bool true) ∧ Below w.heap.size w y := by
  obtain ⟨h1, h2, h3, h4, h5, h6, h7, h8⟩ := hc
  obtain ⟨B, H, S, D⟩ := c
  dsimp only at *
  unfold Cod.val
  have p1 : decide ((B : Int) < 1) = false := decide_eq_false (by omega)
  have p2 : decide ((5 : Int) < (B : Int)) = false := decide_eq_false (by omega)
  have p3 : decide ((H : Int) < 2) = false := decide_eq_false (by omega)
  have p4 : decide ((256 : Int) < (H : Int)) = false := decide_eq_false (by omega)
  have p5 : decide ((S : Int) < 0) = false := decide_eq_false (by omega)
  have p6 : decide ((2 : Int) < (S : Int)) = false := decide_eq_false (by omega)
  obtain rfl | rfl : D = 0 ∨ D = 1 := by omega
  all_goals
    by_cases q1 : 1 < B
    · have r1 : decide ((1 : Int) < (B : Int)) = true := decide_eq_true (by omega)
      by_cases q2 : B < 5
      · have r2 : decide ((B : Int) < 5) = true := decide_eq_true (by omega)
        clear h7 h8
        go_enter Try.func67, Try.ntmps67
        go_wp2
        go_ret
        exact ⟨rfl, by first | exact Below.refl _ _ | exact (Below.refl _ _).alloc (Nat.le_refl _) _⟩
      · have r2 : decide ((B : Int) < 5) = false := decide_eq_false (by omega)
        have r3 : decide ((H : Int) < 256) = true := decide_eq_true (by omega)
        clear h7 h8
        go_enter Try.func67, Try.ntmps67
        go_wp2
        go_ret
        exact ⟨rfl, by first | exact Below.refl _ _ | exact (Below.refl _ _).alloc (Nat.le_refl _) _⟩
    · obtain rfl : H = 256 := by omega
      obtain rfl : B = 1 := by omega
      clear h7 h8
      go_enter Try.func67, Try.ntmps67
      go_wp2
      go_ret
      exact ⟨rfl, by first | exact Below.refl _ _ | exact (Below.refl _ _).alloc (Nat.le_refl _) _⟩
theorem reachU_pos (h : Nat) : ∀ k, h ≤ 256 → 1 ≤ reachU h k
  | 0, _ => by simp [reachU]
  | k + 1, hh => by
    have := reachU_pos h k hh
    have h2 : h * 1 ≤ h * reachU h k := Nat.mul_le_mul_left _ this
    unfold reachU
    omega
theorem reachU_le (h : Nat) (hh : h ≤ 256) : ∀ k, reachU h k ≤ 256 ^ (k + 1)
  | 0 => by simp [reachU]
  | k + 1 => by
    have h1 := reachU_pos h k hh
    have h2 := reachU_le h hh k
    have h3 : h * (reachU h k - 1) ≤ 256 * (reachU h k - 1) := Nat.mul_le_mul_right _ hh
    have h4 : h * (reachU h k - 1) = h * reachU h k - h := by rw [Nat.mul_sub, Nat.mul_one]
    have h5 : h * 1 ≤ h * reachU h k := Nat.mul_le_mul_left _ h1
    unfold reachU
    rw [Nat.pow_succ]
    omega
set_option maxRecDepth 100000 in
theorem reach_any (c : Cod) (hc : c.ok) (w : World) : Calls Try.prog 94 #[c.val] w fun ex y => ex = .returned (.int .i64 (c.reach : Int)) ∧ Below w.heap.size w y := by
  have HR := Lib.hid (fun w => right_any c hc w)
  have hh : c.h ≤ 256 := hc.2.2.2.1
  have h1 : 1 ≤ c.b := hc.1
  have h5 : c.b ≤ 5 := hc.2.1
  have hb := Lib.hid (fun k (hk : k ≤ 4) => Nat.le_trans (reachU_le c.h hh k) (Nat.pow_le_pow_right (by decide : 0 < 256) (by omega : k + 1 ≤ 5)))
  have hfin := Lib.hid (show c.reach = min (reachU c.h (c.b - 1)) 4294967296 from rfl)
  unfold Cod.val at *
  generalize c.b = B at *
  generalize c.h = H at *
  generalize c.s = S at *
  generalize c.d = D at *
  generalize c.reach = R at *
  clear hc c
  go_enter Try.func94, Try.ntmps94
  go_wp2_with fail
  refine (HR.out _).mono ?_
  rintro ex y ⟨rfl, hb1⟩
  have e1 := (blk_facts (hb1.block w.heap.size (by simp) |>.trans (heap_alloc_new w _))).1
  have c0 := e1 0
  have c1 := e1 1
  have hz : w.heap.size < y.heap.size := Nat.lt_of_lt_of_le (by simp) hb1.size
  have HB := Lib.hid (Below.after' ((Below.refl w.heap.size w).alloc (Nat.le_refl _) _) hb1 (by simp))
  clear hb1 e1 HR
  go_wp2_with fail
  go_loop [3, 10] (fun u t => ∃ i : Nat, i ≤ B - 1 ∧ t = .int .i64 i ∧ u = .int .i64 (reachU H i : Int)) (fun _ t => B - (intOf t).toNat)
  case atStart => exact ⟨0, Nat.zero_le _, rfl, rfl⟩
  case round =>
    obtain ⟨i, hi, rfl, rfl⟩ := hrel
    have hb0 := hb.out i (by omega)
    have eB : ((B : Int) - 1) = ((B - 1 : Nat) : Int) := by omega
    by_cases h2 : i < B - 1
    · have p1 : decide (i < B - 1) = true := decide_eq_true h2
      have hb2 := hb.out (i + 1) (by omega)
      have hm := Lib.hid (show (256 - (H : Int)) + (H : Int) * (reachU H i : Int) = (reachU H (i + 1) : Int) by
        rw [show reachU H (i + 1) = 256 - H + H * reachU H i from rfl, Int.natCast_add, Int.natCast_mul, Int.ofNat_sub hh]; rfl)
      have hp0 : 0 ≤ (H : Int) * (reachU H i : Int) := Int.mul_nonneg (by omega) (by omega)
      have hp1 : (H : Int) * (reachU H i : Int) ≤ 2000000000000 := by have := hm.out; omega
      have q1 : decide ((i : Int) < (B : Int) - 1) = true := decide_eq_true (by omega)
      have hq := Lib.hid hb2
      clear hb2 eB
      generalize hr2 : reachU H (i + 1) = r2 at *
      have HR2 := Lib.hid hr2
      clear hr2
      go_wp2_with fail
      go_round
      case rel => exact ⟨i + 1, by omega, by go_num, by rw [hm.out, HR2.out]⟩
      case measure => simp [intOf]; omega
    · obtain rfl : i = B - 1 := by omega
      have q1 : decide (((B - 1 : Nat) : Int) < (B : Int) - 1) = false := decide_eq_false (by omega)
      clear eB h2 hi
      have hm := hfin.out
      go_wp2_with fail
      all_goals go_ret
      all_goals exact ⟨ret_int (by omega), HB.out⟩
end Go.Proofs.Ytbdkoagagcemcaa

/- Layer 24 plain: a number's plain one as it is reckoned; reading told from behind. No program. -/
namespace Go.Proofs.Ytbdkoagagcemcaa

/-- A number's plain one, -1 far out of reach. -/
def plainP (s : Nat) (v : Int) : Int := if v < -8589934592 ∨ 8589934592 < v then -1 else plainI s v
theorem plainP_fits (c : Cod) (hs : c.s ≤ 2) (v : Int) : c.fits (plainP c.s v) = c.fits (plainI c.s v) := by
  unfold plainP
  split
  · rename_i h
    have hr : (c.reach : Int) ≤ 4294967296 := by unfold Cod.reach; omega
    unfold Cod.fits
    rw [decide_eq_false (by omega)]
    symm
    apply decide_eq_false
    unfold plainI
    obtain h0 | h1 | h2 : c.s = 0 ∨ c.s = 1 ∨ c.s = 2 := by omega
    · rw [if_pos h0]; omega
    · simp only [h1, show ¬ (1 : Nat) = 0 from by decide, if_false, show (2 : Int) ^ 1 = 2 from rfl]
      split <;> omega
    · simp only [h2, show ¬ (2 : Nat) = 0 from by decide, if_false, show (2 : Int) ^ 2 = 4 from rfl]
      split <;> omega
  · rfl
theorem plainP_eq {s : Nat} {v : Int} (h1 : -8589934592 ≤ v) (h2 : v ≤ 8589934592) : plainP s v = plainI s v := by
  unfold plainP
  rw [if_neg (by omega)]
theorem boundI_in {s : Nat} {v : Int} (h : boundI s v = true) : -2147483648 ≤ v ∧ v < 4294967296 := by
  unfold boundI at h
  split at h
  · have := of_decide_eq_true h; omega
  · have := of_decide_eq_true h; omega
theorem roundI_in (s : Nat) (v : Int) : -2147483648 ≤ roundI s v ∧ roundI s v < 4294967296 := boundI_in (round_bound s v)
theorem plainI_in {s : Nat} (hs : s ≤ 2) {v : Int} (h1 : -8589934592 ≤ v) (h2 : v ≤ 8589934592) : -8589934592 ≤ plainI s v ∧ plainI s v ≤ 68719476736 := by
  unfold plainI
  obtain rfl | rfl | rfl : s = 0 ∨ s = 1 ∨ s = 2 := by omega
  · simp only [if_true]; omega
  · simp only [show ¬ (1 : Nat) = 0 from by decide, if_false, show (2 : Int) ^ 1 = 2 from rfl]
    split <;> omega
  · simp only [show ¬ (2 : Nat) = 0 from by decide, if_false, show (2 : Int) ^ 2 = 4 from rfl]
    split <;> omega
theorem plainP_in {s : Nat} (hs : s ≤ 2) (v : Int) : -8589934592 ≤ plainP s v ∧ plainP s v ≤ 68719476736 := by
  unfold plainP
  split
  · omega
  · exact plainI_in hs (by omega) (by omega)
/-- What is read, behind what was. -/
def pre (vs : List Int) : Except Int (List Int × List UInt8) → Except Int (List Int × List UInt8)
  | .error e => .error e
  | .ok p => .ok (vs ++ p.1, p.2)
theorem pre_nil (x : Except Int (List Int × List UInt8)) : pre [] x = x := by cases x <;> rfl
theorem pre_pre (a b : List Int) (x : Except Int (List Int × List UInt8)) : pre a (pre b x) = pre (a ++ b) x := by
  cases x with
  | error e => rfl
  | ok p => simp [pre]
theorem Cod.read_succ (c : Cod) (n : Nat) (last : Int) (l : List UInt8) : c.read (n + 1) last l = match c.get l with
    | .error e => .error e
    | .ok p => if boundI c.s p.1 = true then pre [c.sum last p.1] (c.read n (c.sum last p.1) p.2) else .error 5 := by
  conv => lhs; unfold Cod.read
  cases c.get l with
  | error e => rfl
  | ok p =>
    obtain ⟨v, r⟩ := p
    dsimp only
    split
    · cases c.read n (c.sum last v) r with
      | error e => rfl
      | ok q => rfl
    · rfl
theorem Cod.read_bad (c : Cod) (n : Nat) (last : Int) {l : List UInt8} {e : Int} (h : c.get l = .error e) : c.read (n + 1) last l = .error e := by
  rw [Cod.read_succ, h]
theorem Cod.read_out (c : Cod) (n : Nat) (last : Int) {l : List UInt8} {v : Int} {r : List UInt8} (h : c.get l = .ok (v, r)) (hb : boundI c.s v = false) : c.read (n + 1) last l = .error 5 := by
  rw [Cod.read_succ, h]
  dsimp only
  rw [if_neg (by rw [hb]; decide)]
theorem Cod.read_ok (c : Cod) (n : Nat) (last : Int) {l : List UInt8} {v : Int} {r : List UInt8} (h : c.get l = .ok (v, r)) (hb : boundI c.s v = true) : c.read (n + 1) last l = pre [c.sum last v] (c.read n (c.sum last v) r) := by
  rw [Cod.read_succ, h]
  dsimp only
  rw [if_pos hb]
/-- A row's bytes, behind what was. -/
def preB (b : List UInt8) : Option (List UInt8) → Option (List UInt8)
  | none => none
  | some x => some (b ++ x)
theorem preB_nil (x : Option (List UInt8)) : preB [] x = x := by cases x <;> rfl
theorem preB_pre (a b : List UInt8) (x : Option (List UInt8)) : preB a (preB b x) = preB (a ++ b) x := by
  cases x with
  | none => rfl
  | some p => simp [preB]
theorem Cod.row_ok (c : Cod) (last v : Int) (l : List Int) (hb : boundI c.s v = true) (hf : c.fits (plainI c.s (c.diff last v)) = true) : c.row last (v :: l) = preB (putU c.h (c.b - 1) (plainI c.s (c.diff last v)).toNat) (c.row v l) := by
  conv => lhs; unfold Cod.row
  rw [if_pos ⟨hb, hf⟩]
  cases c.row v l <;> rfl
theorem Cod.row_out (c : Cod) (last v : Int) (l : List Int) (h : ¬ (boundI c.s v = true ∧ c.fits (plainI c.s (c.diff last v)) = true)) : c.row last (v :: l) = none := by
  conv => lhs; unfold Cod.row
  rw [if_neg h]
/-- Of what is read: it may be as great as a row's numbers are. -/
theorem Cod.get_in (c : Cod) (hc : c.ok) {l : List UInt8} {p : Int × List UInt8} (h : c.get l = .ok p) : -8589934592 ≤ p.1 ∧ p.1 ≤ 8589934592 := by
  unfold Cod.get at h
  cases hg : getU c.h (c.b - 1) l with
  | none => rw [hg] at h; cases h
  | some q =>
    obtain ⟨u, r⟩ := q
    rw [hg] at h
    dsimp only at h
    split at h
    · cases h
    · cases h
      dsimp only
      unfold numI
      obtain ⟨_, _, _, _, hs, _⟩ := hc
      obtain h0 | h1 | h2 : c.s = 0 ∨ c.s = 1 ∨ c.s = 2 := by omega
      · rw [if_pos h0]; omega
      · simp only [h1, show ¬ (1 : Nat) = 0 from by decide, if_false, show (2 : Int) ^ 1 = 2 from rfl]
        split <;> omega
      · simp only [h2, show ¬ (2 : Nat) = 0 from by decide, if_false, show (2 : Int) ^ 2 = 4 from rfl]
        split <;> omega
theorem Cod.sum_in (c : Cod) (last : Int) {v : Int} (h : boundI c.s v = true) : -2147483648 ≤ c.sum last v ∧ c.sum last v < 4294967296 := by
  unfold Cod.sum
  split
  · exact roundI_in _ _
  · exact boundI_in h
theorem get_rest {h : Nat} : ∀ (k : Nat) (l : List UInt8) (p : Nat × List UInt8), getU h k l = some p → ∃ n, 1 ≤ n ∧ n ≤ l.length ∧ n ≤ k + 1 ∧ p.2 = l.drop n
  | k, [], p, e => by cases k <;> simp [getU] at e
  | 0, x :: l, p, e => by
    simp only [getU, Option.some.injEq] at e
    rw [← e]
    exact ⟨1, Nat.le_refl _, by simp, Nat.le_refl _, rfl⟩
  | k + 1, x :: l, p, e => by
    simp only [getU] at e
    split at e
    · simp only [Option.some.injEq] at e
      rw [← e]
      exact ⟨1, Nat.le_refl _, by simp, by omega, rfl⟩
    · cases hg : getU h k l with
      | none => rw [hg] at e; cases e
      | some q =>
        rw [hg] at e
        simp only [Option.map_some, Option.some.injEq] at e
        obtain ⟨n, h1, h2, h3, h4⟩ := get_rest k l q hg
        rw [← e]
        exact ⟨n + 1, by omega, by simp only [List.length_cons]; omega, by omega, by dsimp only; rw [h4, List.drop_succ_cons]⟩
end Go.Proofs.Ytbdkoagagcemcaa

/- The walks of layer 24: a number's plain one and a plain one's number, bounds, and going round into them. -/
namespace Go.Proofs.Ytbdkoagagcemcaa
open Go.RowKit

theorem i64_not (x : Int) (h : I64 x) : bits .xor .i64 (-1) x = -1 - x := by
  show IntKind.i64.wrap ((BitVec.ofInt 64 (-1) ^^^ BitVec.ofInt 64 x).toNat : Nat) = _
  unfold I64 at h
  have e : BitVec.ofInt 64 (-1) = BitVec.allOnes 64 := by decide
  rw [e, BitVec.allOnes_xor, BitVec.toNat_not, BitVec.toNat_ofInt, IntKind.wrap_i64]
  omega
theorem small_s {c : Cod} (hc : c.ok) : c.s = 0 ∨ c.s = 1 ∨ c.s = 2 := by have := hc.2.2.2.2.1; omega
set_option maxRecDepth 100000 in
theorem bound_any (c : Cod) (hc : c.ok) (v : Int) (hv : I64 v) (w : World) : Calls Try.prog 68 #[c.val, .int .i64 v] w fun ex y => ex = .returned (.bool (boundI c.s v)) ∧ Below w.heap.size w y := by
  have h := small_s hc
  unfold I64 at hv
  unfold Cod.val boundI
  generalize c.b = B
  generalize c.h = H
  generalize c.d = D
  generalize c.s = S at *
  clear hc c
  rcases h with rfl | rfl | rfl
  all_goals
    go_enter Try.func68, Try.ntmps68
    go_wp2_with fail
    go_ret
    refine ⟨ret_bool ?_, (Below.refl _ _).alloc (Nat.le_refl _) _⟩
    rw [Bool.eq_iff_iff]
    try unfold wrap64 wrap32
    simp
    omega
set_option maxRecDepth 100000 in
theorem round_any (c : Cod) (hc : c.ok) (v : Int) (_hv : I64 v) (w : World) : Calls Try.prog 70 #[c.val, .int .i64 v] w fun ex y => ex = .returned (.int .i64 (roundI c.s v)) ∧ Below w.heap.size w y := by
  have h := small_s hc
  unfold I64 at _hv
  unfold Cod.val roundI
  generalize c.b = B
  generalize c.h = H
  generalize c.d = D
  generalize c.s = S at *
  clear hc c
  rcases h with rfl | rfl | rfl
  all_goals
    go_enter Try.func70, Try.ntmps70
    go_wp2_with fail
    go_ret
    refine ⟨ret_int ?_, (Below.refl _ _).alloc (Nat.le_refl _) _⟩
    try simp
    try unfold wrap64 wrap32
    try omega
set_option maxRecDepth 100000 in
theorem plain_any (c : Cod) (hc : c.ok) (v : Int) (hv : I64 v) (w : World) : Calls Try.prog 69 #[c.val, .int .i64 v] w fun ex y => ex = .returned (.int .i64 (plainP c.s v)) ∧ Below w.heap.size w y := by
  have h := small_s hc
  unfold I64 at hv
  unfold Cod.val plainP
  generalize c.b = B
  generalize c.h = H
  generalize c.d = D
  generalize c.s = S at *
  clear hc c
  by_cases h1 : v < -8589934592
  · have p1 : decide (v < -8589934592) = true := decide_eq_true h1
    rw [if_pos (.inl h1)]
    go_enter Try.func69, Try.ntmps69
    go_wp2_with fail
    go_ret
    exact ⟨rfl, (Below.refl _ _).alloc (Nat.le_refl _) _⟩
  · have p1 : decide (v < -8589934592) = false := decide_eq_false h1
    by_cases h2 : 8589934592 < v
    · have p2 : decide (8589934592 < v) = true := decide_eq_true h2
      rw [if_pos (.inr h2)]
      go_enter Try.func69, Try.ntmps69
      go_wp2_with fail
      go_ret
      exact ⟨rfl, (Below.refl _ _).alloc (Nat.le_refl _) _⟩
    · have p2 : decide (8589934592 < v) = false := decide_eq_false h2
      rw [if_neg (by omega)]
      unfold plainI
      by_cases h3 : v < 0
      · have p3 : decide (v < 0) = true := decide_eq_true h3
        have hn := i64_not v hv
        rcases h with rfl | rfl | rfl
        · go_enter Try.func69, Try.ntmps69
          go_wp2_with fail
          go_ret
          exact ⟨rfl, (Below.refl _ _).alloc (Nat.le_refl _) _⟩
        · go_enter Try.func69, Try.ntmps69
          go_wp2_with fail
          go_ret
          refine ⟨ret_int ?_, (Below.refl _ _).alloc (Nat.le_refl _) _⟩
          rw [show wrap64 ((-1 - v) * 2) = (-1 - v) * 2 from by unfold wrap64; omega, i64_or 1 _ _ (by omega) (by omega) (by omega) (by omega) (by omega) (by omega)]
        · go_enter Try.func69, Try.ntmps69
          go_wp2_with fail
          go_ret
          refine ⟨ret_int ?_, (Below.refl _ _).alloc (Nat.le_refl _) _⟩
          rw [show wrap64 ((-1 - v) * 4) = (-1 - v) * 4 from by unfold wrap64; omega, i64_or 2 _ _ (by omega) (by omega) (by omega) (by omega) (by omega) (by omega)]
      · have p3 : decide (v < 0) = false := decide_eq_false h3
        rcases h with rfl | rfl | rfl
        all_goals
          go_enter Try.func69, Try.ntmps69
          go_wp2_with fail
          go_ret
          refine ⟨ret_int ?_, (Below.refl _ _).alloc (Nat.le_refl _) _⟩
          simp
          try omega
set_option maxRecDepth 100000 in
theorem number_any (c : Cod) (hc : c.ok) (u : Int) (h0 : 0 ≤ u) (hu : u ≤ 2000000000000) (w : World) : Calls Try.prog 101 #[c.val, .int .i64 u] w fun ex y => ex = .returned (.int .i64 (numI c.s u)) ∧ Below w.heap.size w y := by
  have h := small_s hc
  unfold Cod.val numI
  generalize c.b = B
  generalize c.h = H
  generalize c.d = D
  generalize c.s = S at *
  clear hc c
  have n2 := i64_not (u / 2) (by unfold I64; omega)
  have n4 := i64_not (u / 4) (by unfold I64; omega)
  rcases h with rfl | rfl | rfl
  · go_enter Try.func101, Try.ntmps101
    go_wp2_with fail
    go_ret
    exact ⟨rfl, (Below.refl _ _).alloc (Nat.le_refl _) _⟩
  · by_cases h1 : u % 2 = 1
    · have q : (bits .and .i64 u 1 == 1) = true := by rw [i64_and1, h1]; rfl
      go_enter Try.func101, Try.ntmps101
      go_wp2_with fail
      go_ret
      refine ⟨ret_int ?_, (Below.refl _ _).alloc (Nat.le_refl _) _⟩
      simp
      try omega
    · have q : (bits .and .i64 u 1 == 1) = false := by rw [i64_and1]; simpa using h1
      go_enter Try.func101, Try.ntmps101
      go_wp2_with fail
      go_ret
      refine ⟨ret_int ?_, (Below.refl _ _).alloc (Nat.le_refl _) _⟩
      simp
  · by_cases h1 : u % 4 = 3
    · have q : (bits .and .i64 u 3 == 3) = true := by rw [i64_and3, h1]; rfl
      go_enter Try.func101, Try.ntmps101
      go_wp2_with fail
      go_ret
      refine ⟨ret_int ?_, (Below.refl _ _).alloc (Nat.le_refl _) _⟩
      simp
      try omega
    · have q : (bits .and .i64 u 3 == 3) = false := by rw [i64_and3]; simpa using h1
      go_enter Try.func101, Try.ntmps101
      go_wp2_with fail
      go_ret
      refine ⟨ret_int ?_, (Below.refl _ _).alloc (Nat.le_refl _) _⟩
      simp
set_option maxRecDepth 100000 in
theorem fits_any (c : Cod) (hc : c.ok) (u : Int) (w : World) : Calls Try.prog 71 #[c.val, .int .i64 u] w fun ex y => ex = .returned (.bool (c.fits u)) ∧ Below w.heap.size w y := by
  have HR := Lib.hid (fun w => reach_any c hc w)
  have hfin := Lib.hid (show c.fits u = (decide (0 ≤ u) && decide (u < (c.reach : Int))) by unfold Cod.fits; rw [Bool.decide_and])
  unfold Cod.val at *
  generalize c.fits u = F at *
  generalize c.reach = R at *
  generalize c.b = B at *
  generalize c.h = H at *
  generalize c.d = D at *
  generalize c.s = S at *
  clear hc c
  by_cases h0 : 0 ≤ u
  · have p0 : decide (0 ≤ u) = true := decide_eq_true h0
    go_enter Try.func71, Try.ntmps71
    go_wp2_with fail
    refine (HR.out _).mono ?_
    rintro ex y ⟨rfl, hb1⟩
    have HB := Lib.hid (Below.after' ((Below.refl w.heap.size w).alloc (Nat.le_refl _) _) hb1 (by simp))
    clear hb1 HR
    go_wp2_with fail
    go_ret
    exact ⟨by rw [hfin.out, p0]; rfl, HB.out⟩
  · have p0 : decide (0 ≤ u) = false := decide_eq_false h0
    go_enter Try.func71, Try.ntmps71
    go_wp2_with fail
    go_ret
    exact ⟨by rw [hfin.out, p0]; rfl, (Below.refl _ _).alloc (Nat.le_refl _) _⟩
end Go.Proofs.Ytbdkoagagcemcaa
