/- Joined texts: PpPlainC, PpWalksF, PpPlainD, Bd, Wd, Cb, MapV, TabMap, TabS. -/
import Derived.Test.YtkdamaomhppkgaaGreatPk5
import Derived.Deep.OwnRows
import Derived.Test.YtkdamaomhppkgaaGreatPk4
import Derived.Test.YtkdamaomhppkgaaGreatPk2
import Derived.Maps.OwnSet
import Derived.DeepKeys4
/- Layer 25 in plain words: the numbers that come most often. No program. -/
namespace Go.Proofs.YtkdamaomhppkgaaGreat.Pp
open Go.RowKit

/-- a stands ahead of b: it comes more often, or as often and is less. -/
def Po.bef (l : List Int) (a b : Int) : Prop := l.count b < l.count a ∨ (l.count a = l.count b ∧ a < b)
instance (l : List Int) (a b : Int) : Decidable (Po.bef l a b) := by unfold Po.bef; infer_instance
/-- No candidate. -/
def Po.no (l out : List Int) (v : Int) : Prop := l.count v < 2 ∨ 0 < out.count v
instance (l out : List Int) (v : Int) : Decidable (Po.no l out v) := by unfold Po.no; infer_instance
/-- One number more is looked at. -/
def Po.pick (l out : List Int) (acc : Option Int) (v : Int) : Option Int :=
  if Po.no l out v then acc else if ∃ b, acc = some b ∧ ¬ Po.bef l v b then acc else some v
def Po.next (l out : List Int) (xs : List Int) : Option Int := xs.foldl (Po.pick l out) none
theorem Po.next_snoc (l out xs : List Int) (v : Int) : Po.next l out (xs ++ [v]) = Po.pick l out (Po.next l out xs) v := by
  unfold Po.next; rw [List.foldl_append]; rfl
def Po.favs (l : List Int) : Nat → List Int
  | 0 => []
  | k + 1 => Po.favs l k ++ (Po.next l (Po.favs l k) l).toList
theorem Po.favs_succ (l : List Int) (k : Nat) : Po.favs l (k + 1) = Po.favs l k ++ (Po.next l (Po.favs l k) l).toList := rfl
theorem Po.favs_stay {l : List Int} {k : Nat} (h : Po.next l (Po.favs l k) l = none) : ∀ j, Po.favs l (k + j) = Po.favs l k
  | 0 => rfl
  | j + 1 => by rw [← Nat.add_assoc, Po.favs_succ, Po.favs_stay h j, h]; simp
theorem Po.bef_trans {l : List Int} {a b c : Int} (h : Po.bef l a b) (k : Po.bef l b c) : Po.bef l a c := by unfold Po.bef at *; omega
theorem Po.bef_asymm {l : List Int} {a b : Int} (h : Po.bef l a b) : ¬ Po.bef l b a := by unfold Po.bef at *; omega
theorem Po.bef_total {l : List Int} {a b : Int} (h : ¬ Po.bef l a b) : a = b ∨ Po.bef l b a := by unfold Po.bef at *; omega
theorem Po.bef_irrefl {l : List Int} {a : Int} : ¬ Po.bef l a a := by unfold Po.bef; omega
/-- What is picked. -/
def Po.Best (l out xs : List Int) : Option Int → Prop
  | none => ∀ v ∈ xs, Po.no l out v
  | some b => b ∈ xs ∧ ¬ Po.no l out b ∧ ∀ v ∈ xs, Po.no l out v ∨ v = b ∨ Po.bef l b v
theorem Po.best_step {l out xs : List Int} {r : Option Int} {v : Int} (h : Po.Best l out xs r) : Po.Best l out (xs ++ [v]) (Po.pick l out r v) := by
  unfold Po.pick
  by_cases hno : Po.no l out v
  · rw [if_pos hno]
    cases r with
    | none =>
      intro x hx
      rcases List.mem_append.1 hx with h1 | h1
      · exact h x h1
      · rw [List.mem_singleton] at h1; subst h1; exact hno
    | some b =>
      refine ⟨List.mem_append_left _ h.1, h.2.1, fun x hx => ?_⟩
      rcases List.mem_append.1 hx with h1 | h1
      · exact h.2.2 x h1
      · rw [List.mem_singleton] at h1; subst h1; exact .inl hno
  · rw [if_neg hno]
    cases r with
    | none =>
      rw [if_neg (by rintro ⟨b, hb, _⟩; cases hb)]
      refine ⟨by simp, hno, fun x hx => ?_⟩
      rcases List.mem_append.1 hx with h1 | h1
      · exact .inl (h x h1)
      · rw [List.mem_singleton] at h1; exact .inr (.inl h1)
    | some b =>
      by_cases hb : Po.bef l v b
      · rw [if_neg (by rintro ⟨c, hc, h2⟩; cases hc; exact h2 hb)]
        refine ⟨by simp, hno, fun x hx => ?_⟩
        rcases List.mem_append.1 hx with h1 | h1
        · rcases h.2.2 x h1 with h2 | rfl | h2
          · exact .inl h2
          · exact .inr (.inr hb)
          · exact .inr (.inr (Po.bef_trans hb h2))
        · rw [List.mem_singleton] at h1; exact .inr (.inl h1)
      · rw [if_pos ⟨b, rfl, hb⟩]
        refine ⟨List.mem_append_left _ h.1, h.2.1, fun x hx => ?_⟩
        rcases List.mem_append.1 hx with h1 | h1
        · exact h.2.2 x h1
        · rw [List.mem_singleton] at h1; subst h1
          rcases Po.bef_total hb with h2 | h2
          · exact .inr (.inl h2)
          · exact .inr (.inr h2)
theorem Po.best (l out : List Int) : ∀ (n : Nat) (xs : List Int), xs.length = n → Po.Best l out xs (Po.next l out xs)
  | 0, xs, h => by rw [List.eq_nil_of_length_eq_zero h]; intro v hv; simp at hv
  | n + 1, xs, h => by
    obtain ⟨ys, y, rfl⟩ : ∃ ys y, xs = ys ++ [y] := ⟨xs.dropLast, xs.getLast (by intro e; rw [e] at h; simp at h), (List.dropLast_concat_getLast _).symm⟩
    rw [Po.next_snoc]
    exact Po.best_step (Po.best l out n ys (by simp at h; exact h))
/-- The favorites, all of them, in their order. -/
def Po.Is (l S : List Int) : Prop := S.Pairwise (Po.bef l) ∧ ∀ v, v ∈ S ↔ 2 ≤ l.count v
theorem Po.favs_take {l S : List Int} (h : Po.Is l S) : ∀ k, Po.favs l k = S.take k
  | 0 => rfl
  | k + 1 => by
    have ih := Po.favs_take h k
    have hb := Po.best l (Po.favs l k) l.length l rfl
    rw [Po.favs_succ]
    rw [ih] at hb ⊢
    by_cases hk : k < S.length
    · have hs : S[k]? = some S[k] := List.getElem?_eq_getElem hk
      have htk := take_snocI S k _ hs
      have hdr := (List.drop_eq_getElem_cons hk)
      have hsplit : S = S.take k ++ S[k] :: S.drop (k + 1) := by rw [← hdr, List.take_append_drop]
      have hp := h.1
      rw [hsplit, List.pairwise_append] at hp
      have hp2 := List.pairwise_cons.1 hp.2.1
      have hin : 2 ≤ l.count S[k] := (h.2 _).1 (List.getElem_mem hk)
      have hnot : (S.take k).count S[k] = 0 := List.count_eq_zero_of_not_mem (fun hm => Po.bef_irrefl (hp.2.2 _ hm _ (List.mem_cons_self ..)))
      have hno : ¬ Po.no l (S.take k) S[k] := by unfold Po.no; omega
      have hml : S[k] ∈ l := List.count_pos_iff.1 (by omega)
      cases hn : Po.next l (S.take k) l with
      | none => rw [hn] at hb; exact absurd (hb _ hml) hno
      | some b =>
        rw [hn] at hb
        obtain ⟨h1, h2, h3⟩ := hb
        have hbS : b ∈ S := (h.2 b).2 (by unfold Po.no at h2; omega)
        have hbn : b ∉ S.take k := fun hm => h2 (.inr (List.count_pos_iff.2 hm))
        have e : b = S[k] := by
          rcases h3 _ hml with h4 | h4 | h4
          · exact absurd h4 hno
          · exact h4.symm
          · rw [hsplit] at hbS
            rcases List.mem_append.1 hbS with h5 | h5
            · exact absurd h5 hbn
            · rcases List.mem_cons.1 h5 with h6 | h6
              · exact h6
              · exact absurd h4 (Po.bef_asymm (hp2.1 b h6))
        rw [htk, e]; rfl
    · have e1 : S.take k = S := List.take_of_length_le (by omega)
      have e2 : S.take (k + 1) = S := List.take_of_length_le (by omega)
      rw [e1] at hb
      rw [e1, e2]
      cases hn : Po.next l S l with
      | none => simp
      | some b =>
        rw [hn] at hb
        have hbS : b ∈ S := (h.2 b).2 (by have := hb.2.1; unfold Po.no at this; omega)
        exact absurd (.inr (List.count_pos_iff.2 hbS)) hb.2.1
/-- What is picked comes at least twice, and is new. -/
theorem Po.favs_facts (l : List Int) : ∀ k, (Po.favs l k).Nodup ∧ ∀ v ∈ Po.favs l k, 2 ≤ l.count v
  | 0 => ⟨List.nodup_nil, fun v hv => by simp [Po.favs] at hv⟩
  | k + 1 => by
    obtain ⟨h1, h2⟩ := Po.favs_facts l k
    have hb := Po.best l (Po.favs l k) l.length l rfl
    rw [Po.favs_succ]
    cases hn : Po.next l (Po.favs l k) l with
    | none => simpa using ⟨h1, h2⟩
    | some b =>
      rw [hn] at hb
      have hb2 := hb.2.1
      unfold Po.no at hb2
      rw [show (some b).toList = [b] from rfl, nodup_snoc]
      refine ⟨⟨h1, fun hm => hb2 (.inr (List.count_pos_iff.2 hm))⟩, fun v hv => ?_⟩
      rcases List.mem_append.1 hv with h3 | h3
      · exact h2 v h3
      · rw [List.mem_singleton] at h3; subst h3; omega
theorem length_le_sub : ∀ (xs l : List Int), xs.Nodup → (∀ v ∈ xs, v ∈ l) → xs.length ≤ l.length
  | [], _, _, _ => Nat.zero_le _
  | x :: xs, l, hn, hm => by
    rw [List.nodup_cons] at hn
    have hx := hm x (List.mem_cons_self ..)
    have := length_le_sub xs (l.erase x) hn.2 (fun v hv => (List.mem_erase_of_ne (show v ≠ x from fun e => hn.1 (by rw [← e]; exact hv))).2 (hm v (List.mem_cons_of_mem _ hv)))
    rw [List.length_erase_of_mem hx] at this
    have := List.length_pos_of_mem hx
    simp only [List.length_cons]
    omega
theorem Po.favs_le (l : List Int) (k : Nat) : (Po.favs l k).length ≤ l.length :=
  length_le_sub _ _ (Po.favs_facts l k).1 (fun v hv => List.count_pos_iff.1 (by have := (Po.favs_facts l k).2 v hv; omega))
end Go.Proofs.YtkdamaomhppkgaaGreat.Pp
/- The walk of layer 25: joining. -/
namespace Go.Proofs.YtkdamaomhppkgaaGreat.Pp
open Go.RowKit Go.Maps

/-- What the call comes to. -/
def JoinRes (fs ts rs : List Int) (w : World) (e : Ending) (w' : World) : Prop :=
  ∃ A c, e = .returned (.tuple #[.slice A (Po.out fs ts rs).length c, .int .i64 (Po.err fs ts rs)]) ∧ (Ints w' A c (Po.out fs ts rs) ∧ ∀ g o, A = some ⟨g, o, none⟩ → w.heap.size ≤ g) ∧ Below w.heap.size w w'
theorem _root_.Go.Proofs.YtkdamaomhppkgaaGreat.Ints.next {w : World} {A : Option Addr} {c : Nat} {x : Int} {xs : List Int} (h : Ints w A c (x :: xs)) : ∃ g o, A = some ⟨g, o, none⟩ ∧ g < w.heap.size ∧ w.cell? ⟨g, o, none⟩ = some (.int .i64 x) ∧ xs.length + 1 ≤ c ∧ Ints w (if c = 1 then some ⟨g, o, none⟩ else some ⟨g, o + 1, none⟩) (c - 1) xs := by
  obtain ⟨g, o, rfl, hg, hc⟩ := h.2 (by simp)
  have h1 := h.1
  rw [List.length_cons] at h1
  refine ⟨g, o, rfl, hg, by simpa using hc 0 x (by simp), h1, by omega, fun hp => ?_⟩
  rw [if_neg (by omega)]
  refine ⟨g, o + 1, rfl, hg, fun j y hy => ?_⟩
  have := hc (j + 1) y (by simpa using hy)
  rw [show o + 1 + j = o + (j + 1) from by omega]
  exact this
theorem drop_at {α : Type} {l : List α} {i : Nat} {x : α} (h : l[i]? = some x) : l.drop i = x :: l.drop (i + 1) := by
  obtain ⟨h3, rfl⟩ := List.getElem?_eq_some_iff.1 h
  exact List.drop_eq_getElem_cons h3
/-- One number more is stored. -/
theorem row_step {w : World} {b n i : Nat} {t : TypeId} {f : Nat → Int} {y : Int} (h : w.rowIs b t n (fun j => if j < i then .int .i64 (f j) else .int .i64 0)) (hy : f i = y) :
    (w.setCell ⟨b, i, none⟩ (.int .i64 y)).rowIs b t n (fun j => if j < i + 1 then .int .i64 (f j) else .int .i64 0) :=
  (h.set i _).congr (fun j _ => by
    by_cases e : j = i
    · subst e; simp [hy]
    · rw [if_neg e]
      by_cases h1 : j < i
      · rw [if_pos h1, if_pos (by omega)]
      · rw [if_neg h1, if_neg (by omega)])

set_option maxHeartbeats 8000000 in
set_option maxRecDepth 100000 in
theorem join_any (A B C : Option Addr) (c d k : Nat) (fs ts rs : List Int) (w : World) (hx : Ints w A c fs) (hy : Ints w B d ts) (hz : Ints w C k rs) (hI : ∀ x ∈ fs, I64 x) (hJ : ∀ x ∈ rs, I64 x)
    (hn : fs.length ≤ 100000) (hm : ts.length ≤ 100000) (hl : rs.length ≤ 100000) :
    Calls Tryz.prog 84 #[.slice A fs.length c, .slice B ts.length d, .slice C rs.length k] w (JoinRes fs ts rs w) := by
  have HX := Lib.hid hx
  have HY := Lib.hid hy
  have HZ := Lib.hid hz
  have HPL := Lib.hid (check_any A B C c d k fs ts rs w hx hy hz hI hJ hn hm hl)
  clear hx hy hz hI hJ
  by_cases h0 : Po.err fs ts rs = 0
  rotate_left
  · have q : (Po.err fs ts rs != 0) = true := by simp [h0]
    have hfin := Lib.hid (show Po.out fs ts rs = [] from if_neg h0)
    clear h0 HX HY HZ
    go_enter Tryz.func84, Tryz.ntmps84
    go_wp2_with fail
    refine HPL.out.mono ?_
    rintro e w0 ⟨rfl, hb0⟩
    have HB0 := Lib.hid hb0
    clear hb0 HPL
    go_wp2
    go_ret2
    exact ⟨none, 0, by rw [hfin.out]; rfl, ⟨by rw [hfin.out]; exact Ints.nil _ _ _, fun g o e => by cases e⟩, HB0.out⟩
  · have hE := Lib.hid (Po.err_zero h0)
    have hfin := Lib.hid (show Po.out fs ts rs = Po.rowN fs ts rs ts.length from if_pos h0)
    have hE0 := Lib.hid h0
    rw [h0] at HPL
    clear h0
    have hmk := run_make_row' (P := Tryz.prog) 72 3 (.int .i64 0) 8 Tryz.underlying72 infoInt rfl .i64 .i64 ts.length (by omega) (by omega)
    go_enter Tryz.func84, Tryz.ntmps84
    go_wp2_with fail
    refine HPL.out.mono ?_
    rintro e w0 ⟨rfl, hb0⟩
    have HB0 := Lib.hid hb0
    clear hb0 HPL
    go_wp2_with fail
    go_loopw [2, 24] (fun v u wr => ∃ i : Nat, i ≤ ts.length ∧ u = .int .i64 i ∧ (∃ A' c', v = .slice A' (rs.drop ((ts.take i).count 0)).length c' ∧ Ints w0 A' c' (rs.drop ((ts.take i).count 0))) ∧ wr.rowIs w0.heap.size 3 ts.length (fun j => if j < i then .int .i64 (Po.el fs ts rs j) else .int .i64 0) ∧ Below w0.heap.size w0 wr) (fun _ u _ => ts.length - (intOf u).toNat)
    case atStart => exact ⟨0, Nat.zero_le _, rfl, ⟨C, k, rfl, HZ.out.grow HB0.out⟩, (World.rowIs_made w0 (.int .i64 0) ts.length 3).congr (fun j _ => by simp), (Below.refl _ _).alloc (Nat.le_refl _) _⟩
    case round =>
      obtain ⟨i, hil, rfl, ⟨A', c', rfl, hrest⟩, hrow, hB⟩ := hrel
      have HB := Lib.hid hB
      have HR := Lib.hid hrest
      have HO := Lib.hid hrow
      have HW := Lib.hid (Below.after' HB0.out hB (Nat.le_refl _))
      by_cases h1 : i < ts.length
      · obtain ⟨g, o, x, rfl, hg, hxi, hct⟩ := (HY.out.grow HW.out).at_ h1
        have hxr := Po.bad_at hE.out.1 hxi
        have hcs := Lib.hid (Po.count_step hxi)
        have hcell := hrow.cell h1
        have hfr := hrow.frozen i
        rw [if_neg (Nat.lt_irrefl i)] at hcell
        have HXI := Lib.hid hxi
        clear hB hrest hrow hxi
        by_cases hx0 : x = 0
        · subst hx0
          have q : decide ((0 : Int) < 0) = false := rfl
          have hrm := Po.room HXI.out
          rw [hE.out.2.2] at hrm
          have hcs2 := Lib.hid (hcs.out.trans (by rw [if_pos rfl]))
          obtain ⟨y, hyr⟩ : ∃ y, rs[(ts.take i).count 0]? = some y := ⟨_, List.getElem?_eq_getElem hrm⟩
          have hdr := drop_at hyr
          have hel := Lib.hid (Po.el_rest (fs := fs) HXI.out hyr)
          have hR2 := HR.out
          rw [hdr] at hR2 ⊢
          obtain ⟨g2, o2, rfl, hg2, hc2, hcap, hnx⟩ := hR2.next
          have hcell2 : wr.cell? ⟨g2, o2, none⟩ = some (.int .i64 y) := (HB.out.cell (p := ⟨g2, o2, none⟩) hg2).trans hc2
          have HN := Lib.hid hnx
          have HS := Lib.hid (row_step HO.out hel.out)
          have HD := Lib.hid (HB.out.setCell (p := ⟨w0.heap.size, i, none⟩) (Nat.le_refl _) (.int .i64 y))
          rw [← hcs2.out] at HN ⊢
          clear HR hc2 hR2 hdr hyr hcs hnx hg2
          generalize hrr : rs.drop ((ts.take (i + 1)).count 0) = rs2 at *
          have HRR := Lib.hid hrr
          clear hrr
          simp only [List.length_cons]
          go_wp2_with fail
          go_region
          all_goals go_wp2
          all_goals go_roundw
          case rel => exact ⟨i + 1, by omega, by go_num, ⟨_, _, by rw [HRR.out], by rw [HRR.out]; exact HN.out⟩, HS.out, HD.out.drew⟩
          case measure => simp [intOf]; omega
        · obtain ⟨m, rfl⟩ : ∃ m : Nat, x = ((m + 1 : Nat) : Int) := ⟨(x - 1).toNat, by omega⟩
          have q : decide ((0 : Int) < ((m + 1 : Nat) : Int)) = true := by simp
          obtain ⟨g2, o2, y, rfl, hg2, hyr, hcell2⟩ := (HX.out.grow HW.out).at_ (i := m) (by omega)
          have ek : ((m + 1 : Nat) : Int) - 1 = (m : Int) := by omega
          have hel := Lib.hid (Po.el_place (rs := rs) HXI.out hyr)
          have hcs2 := Lib.hid (hcs.out.trans (by rw [if_neg hx0, Nat.add_zero]))
          have HS := Lib.hid (row_step HO.out hel.out)
          have HD := Lib.hid (HB.out.setCell (p := ⟨w0.heap.size, i, none⟩) (Nat.le_refl _) (.int .i64 y))
          have hmf : m < fs.length := by omega
          rw [← hcs2.out] at HR ⊢
          generalize hrr : rs.drop ((ts.take (i + 1)).count 0) = rs2 at *
          have HRR := Lib.hid hrr
          clear hrr hcs hyr hxr hx0
          go_wp2_with fail
          go_roundw
          case rel => exact ⟨i + 1, by omega, by go_num, ⟨_, _, by rw [HRR.out], by rw [HRR.out]; exact HR.out⟩, HS.out, HD.out⟩
          case measure => simp [intOf]; omega
      · have hii : i = ts.length := by omega
        subst hii
        have hrd : Ints wr (some ⟨w0.heap.size, 0, none⟩) ts.length (Po.rowN fs ts rs ts.length) := ⟨by rw [Po.rowN_length]; exact Nat.le_refl _, fun _ => ⟨w0.heap.size, 0, rfl, hrow.lt, fun j x hx => by
          obtain ⟨h3, rfl⟩ := Po.rowN_get _ _ _ _ _ _ hx
          rw [Nat.zero_add, hrow.cell h3, if_pos h3]⟩⟩
        have HF := Lib.hid hrd
        clear hrest hrow hrd hB HR HO
        go_wp2
        go_ret2
        exact ⟨_, _, by rw [hfin.out, Po.rowN_length, hE0.out]; rfl, ⟨by rw [hfin.out]; exact HF.out, fun g o e => by cases e; exact HB0.out.size⟩, HW.out⟩
end Go.Proofs.YtkdamaomhppkgaaGreat.Pp
/- Layer 25 in plain words: what is split by its favorites is joined. No program. -/
namespace Go.Proofs.YtkdamaomhppkgaaGreat.Pp
open Go.RowKit

theorem Po.count_tokens (fs : List Int) : ∀ l : List Int, (Po.tokens fs l).count 0 = (Po.left fs l).length
  | [] => rfl
  | x :: l => by
    have ih := Po.count_tokens fs l
    unfold Po.tokens Po.left at *
    rw [List.map_cons, List.filter_cons]
    by_cases h : Po.at fs x = 0
    · rw [h, if_pos (by simp)]
      rw [List.length_cons, ← ih]
      exact List.count_cons_self
    · rw [if_neg (by simp [h]), ← ih]
      rw [List.count_cons_of_ne (by simp; omega)]
theorem Po.back_err {fs : List Int} (hn : fs.Nodup) (l : List Int) : Po.err fs (Po.tokens fs l) (Po.left fs l) = 0 := by
  have hb : Po.bad fs (Po.tokens fs l) = false := by
    unfold Po.bad Po.tokens
    rw [List.any_map, List.any_eq_false]
    intro x _
    have := Po.at_le fs x
    simp
    omega
  have ht : Po.twice fs (Po.left fs l) = false := by
    unfold Po.twice
    rw [decide_eq_true hn, Bool.not_true, Bool.false_or, List.any_eq_false]
    intro x hx
    have := of_decide_eq_true (List.mem_filter.1 hx).2
    simp [this]
  unfold Po.err
  rw [hb, ht, Po.count_tokens]
  simp
theorem Po.back_el (fs l : List Int) {i : Nat} {x : Int} (hx : l[i]? = some x) : Po.el fs (Po.tokens fs l) (Po.left fs l) i = x := by
  have htk : (Po.tokens fs l)[i]? = some ((Po.at fs x : Nat) : Int) := by unfold Po.tokens; rw [List.getElem?_map, hx]; rfl
  by_cases h0 : Po.at fs x = 0
  · refine Po.el_rest (by rw [htk, h0]; rfl) ?_
    have e1 : (Po.tokens fs l).take i = Po.tokens fs (l.take i) := by unfold Po.tokens; rw [List.map_take]
    rw [e1, Po.count_tokens]
    have hsp : l = l.take i ++ x :: l.drop (i + 1) := by rw [← drop_at hx, List.take_append_drop]
    have e2 : Po.left fs l = Po.left fs (l.take i) ++ x :: Po.left fs (l.drop (i + 1)) := by
      conv => lhs; rw [hsp]
      unfold Po.left
      rw [List.filter_append, List.filter_cons, if_pos (by simp [h0])]
    rw [e2]
    simp
  · obtain ⟨m, hm⟩ : ∃ m, Po.at fs x = m + 1 := ⟨Po.at fs x - 1, by omega⟩
    have hg := Po.at_get h0
    rw [hm] at htk hg
    exact Po.el_place htk hg
theorem Po.back_out {fs : List Int} (hn : fs.Nodup) (l : List Int) : Po.out fs (Po.tokens fs l) (Po.left fs l) = l := by
  unfold Po.out
  rw [if_pos (Po.back_err hn l)]
  have hlen : (Po.tokens fs l).length = l.length := by unfold Po.tokens; rw [List.length_map]
  apply List.ext_getElem?
  intro j
  by_cases hj : j < l.length
  · have h1 : l[j]? = some l[j] := List.getElem?_eq_getElem hj
    rw [h1]
    unfold Po.rowN
    rw [List.getElem?_map, List.getElem?_range (by omega)]
    show some (Po.el fs (Po.tokens fs l) (Po.left fs l) j) = _
    rw [Po.back_el fs l h1]
  · rw [List.getElem?_eq_none (by rw [Po.rowN_length]; omega), List.getElem?_eq_none (by omega)]
theorem Po.favs_length (l : List Int) : ∀ k, (Po.favs l k).length ≤ k
  | 0 => Nat.le_refl _
  | k + 1 => by
    rw [Po.favs_succ, List.length_append]
    have := Po.favs_length l k
    have h2 : (Po.next l (Po.favs l k) l).toList.length ≤ 1 := by cases Po.next l (Po.favs l k) l <;> simp
    omega
end Go.Proofs.YtkdamaomhppkgaaGreat.Pp
/- Layer 26 plain: a row in the coding that is shortest, or by its favorites; what is written is read as it was. No program. -/
namespace Go.Proofs.YtkdamaomhppkgaaGreat
open Pp

/-- The shortest so far, behind one more coding. -/
def shortIn (l : List Int) (best : Option (List UInt8)) (i : Nat) (c : Cod) : Option (List UInt8) :=
  match c.row 0 l with
  | none => best
  | some b => match best with
    | none => some (UInt8.ofNat i :: b)
    | some x => if b.length + 1 < x.length then some (UInt8.ofNat i :: b) else best
def shortTo (l : List Int) : Nat → Option (List UInt8)
  | 0 => none
  | i + 1 => match cods[i]? with
    | none => shortTo l i
    | some c => shortIn l (shortTo l i) i c
def short (l : List Int) : Option (List UInt8) := shortTo l 15
/-- What a short row is. -/
def IsShort (l : List Int) (n : Nat) : Option (List UInt8) → Prop
  | none => ∀ i c, i < n → cods[i]? = some c → c.row 0 l = none
  | some x => (∃ i c b, i < n ∧ cods[i]? = some c ∧ c.row 0 l = some b ∧ x = UInt8.ofNat i :: b) ∧ ∀ i c b, i < n → cods[i]? = some c → c.row 0 l = some b → x.length ≤ b.length + 1
theorem shortTo_is (l : List Int) : ∀ n, IsShort l n (shortTo l n)
  | 0 => fun i c h _ => by omega
  | n + 1 => by
    have ih := shortTo_is l n
    unfold shortTo
    cases hc : cods[n]? with
    | none =>
      dsimp only
      have lt : ∀ i c, i < n + 1 → cods[i]? = some c → i < n := fun i c h1 h2 => by
        by_cases e : i = n
        · subst e; rw [hc] at h2; cases h2
        · omega
      cases hs : shortTo l n with
      | none =>
        rw [hs] at ih
        exact fun i c h1 h2 => ih i c (lt i c h1 h2) h2
      | some x =>
        rw [hs] at ih
        obtain ⟨⟨i, c, b, h1, h2, h3, h4⟩, h5⟩ := ih
        exact ⟨⟨i, c, b, by omega, h2, h3, h4⟩, fun i c b h1 h2 h3 => h5 i c b (lt i c h1 h2) h2 h3⟩
    | some c0 =>
      dsimp only
      unfold shortIn
      have cas : ∀ i c, i < n + 1 → cods[i]? = some c → i < n ∨ (i = n ∧ c = c0) := fun i c h1 h2 => by
        by_cases e : i = n
        · subst e; rw [hc] at h2; cases h2; exact .inr ⟨rfl, rfl⟩
        · exact .inl (by omega)
      cases hr : c0.row 0 l with
      | none =>
        dsimp only
        cases hs : shortTo l n with
        | none =>
          rw [hs] at ih
          intro i c h1 h2
          rcases cas i c h1 h2 with h | ⟨rfl, rfl⟩
          · exact ih i c h h2
          · exact hr
        | some x =>
          rw [hs] at ih
          obtain ⟨⟨i, c, b, h1, h2, h3, h4⟩, h5⟩ := ih
          refine ⟨⟨i, c, b, by omega, h2, h3, h4⟩, fun i c b h1 h2 h3 => ?_⟩
          rcases cas i c h1 h2 with h | ⟨rfl, rfl⟩
          · exact h5 i c b h h2 h3
          · rw [hr] at h3; cases h3
      | some b0 =>
        dsimp only
        cases hs : shortTo l n with
        | none =>
          rw [hs] at ih
          dsimp only
          refine ⟨⟨n, c0, b0, by omega, hc, hr, rfl⟩, fun i c b h1 h2 h3 => ?_⟩
          rcases cas i c h1 h2 with h | ⟨rfl, rfl⟩
          · rw [ih i c h h2] at h3; cases h3
          · rw [hr] at h3; cases h3; simp
        | some x =>
          rw [hs] at ih
          dsimp only
          obtain ⟨⟨i, c, b, h1, h2, h3, h4⟩, h5⟩ := ih
          split
          · rename_i hlt
            refine ⟨⟨n, c0, b0, by omega, hc, hr, rfl⟩, fun i c b h1 h2 h3 => ?_⟩
            rcases cas i c h1 h2 with h | ⟨rfl, rfl⟩
            · have := h5 i c b h h2 h3
              simp only [List.length_cons]
              omega
            · rw [hr] at h3; cases h3; simp
          · rename_i hlt
            refine ⟨⟨i, c, b, by omega, h2, h3, h4⟩, fun i c b h1 h2 h3 => ?_⟩
            rcases cas i c h1 h2 with h | ⟨rfl, rfl⟩
            · exact h5 i c b h h2 h3
            · rw [hr] at h3; cases h3; omega
/-- A row by its favorites. -/
def fav (l : List Int) (many : Nat) : Option (List UInt8) :=
  if Po.favs l many = [] then none else
    match short (Po.favs l many) with
    | none => none
    | some a => match short (Po.tokens (Po.favs l many) l) with
      | none => none
      | some b => match short (Po.left (Po.favs l many) l) with
        | none => none
        | some c => some (255 :: UInt8.ofNat (Po.favs l many).length :: (a ++ b ++ c))
def better (best : List UInt8) : Option (List UInt8) → List UInt8
  | none => best
  | some b => if b.length < best.length then b else best
/-- A band's bytes. -/
def bandW (l : List Int) : Option (List UInt8) := (short l).map fun s => if l.length < 8 then s else better (better (better s (fav l 1)) (fav l 3)) (fav l 15)
def joinR (n : Nat) : List UInt8 → Except Int (List Int × List UInt8)
  | [] => .error 6
  | m :: r => if m.toNat < 1 ∨ 15 < m.toNat then .error 2 else
    match nextR m.toNat r with
    | .error e => .error e
    | .ok (fs, r1) => match nextR n r1 with
      | .error e => .error e
      | .ok (ts, r2) => match nextR (ts.count 0) r2 with
        | .error e => .error e
        | .ok (rs, r3) => if Po.err fs ts rs = 0 then .ok (Po.out fs ts rs, r3) else .error (Po.err fs ts rs)
/-- A band that bytes begin with. -/
def bandR (n : Nat) : List UInt8 → Except Int (List Int × List UInt8)
  | [] => .error 6
  | k :: r => if k = 255 then joinR n r else plainR k.toNat n r
theorem nextR_cons (n : Nat) (k : UInt8) (r : List UInt8) : nextR n (k :: r) = plainR k.toNat n r := rfl
theorem bandR_join (n : Nat) (r : List UInt8) : bandR n (255 :: r) = joinR n r := rfl
theorem bandR_cons {n : Nat} {k : UInt8} (hk : k ≠ 255) (r : List UInt8) : bandR n (k :: r) = plainR k.toNat n r := by
  show (if k = 255 then joinR n r else plainR k.toNat n r) = _
  rw [if_neg hk]
theorem joinR_cons {n : Nat} {m : UInt8} (hm : ¬ (m.toNat < 1 ∨ 15 < m.toNat)) (r : List UInt8) : joinR n (m :: r) = (match nextR m.toNat r with
    | .error e => .error e
    | .ok (fs, r1) => match nextR n r1 with
      | .error e => .error e
      | .ok (ts, r2) => match nextR (ts.count 0) r2 with
        | .error e => .error e
        | .ok (rs, r3) => if Po.err fs ts rs = 0 then .ok (Po.out fs ts rs, r3) else .error (Po.err fs ts rs)) := by
  show (if m.toNat < 1 ∨ 15 < m.toNat then Except.error 2 else _) = _
  rw [if_neg hm]
theorem cods_len : cods.length = 15 := rfl
theorem next_short {l : List Int} {x : List UInt8} (h : short l = some x) (r : List UInt8) : ∃ k b, x = UInt8.ofNat k :: b ∧ k < 15 ∧ nextR l.length (x ++ r) = .ok (l, r) ∧ plainR k l.length (b ++ r) = .ok (l, r) := by
  have hs := shortTo_is l 15
  rw [show shortTo l 15 = some x from h] at hs
  obtain ⟨⟨i, c, b, h1, h2, h3, h4⟩, _⟩ := hs
  have hp : plainR i l.length (b ++ r) = .ok (l, r) := by
    unfold plainR
    rw [h2]
    dsimp only
    have hlen := c.row_len l 0 b h3
    rw [if_neg (by rw [List.length_append]; omega)]
    exact c.read_row (cods_ok c (List.mem_of_getElem? h2)) l 0 b r h3
  refine ⟨i, b, h4, h1, ?_, hp⟩
  rw [h4, List.cons_append, nextR_cons, ofNat_lt (by omega)]
  exact hp
theorem favs_bound (l : List Int) (k : Nat) (hk : k ≤ 15) : (Po.favs l k).length ≤ 15 := Nat.le_trans (Po.favs_length l k) hk
theorem band_fav {l : List Int} {many : Nat} (hm : many ≤ 15) {x : List UInt8} (h : fav l many = some x) (r : List UInt8) : bandR l.length (x ++ r) = .ok (l, r) := by
  unfold fav at h
  split at h
  · cases h
  · rename_i hne
    have hnd := (Po.favs_facts l many).1
    have hfl := favs_bound l many hm
    generalize Po.favs l many = fs at *
    cases ha : short fs with
    | none => rw [ha] at h; cases h
    | some a =>
      rw [ha] at h
      cases hb : short (Po.tokens fs l) with
      | none => rw [hb] at h; cases h
      | some b =>
        rw [hb] at h
        cases hc : short (Po.left fs l) with
        | none => rw [hc] at h; cases h
        | some c =>
          rw [hc] at h
          simp only [Option.some.injEq] at h
          have hpos : 1 ≤ fs.length := List.length_pos_iff.2 hne
          rw [← h]
          show bandR l.length (255 :: UInt8.ofNat fs.length :: (a ++ b ++ c) ++ r) = _
          have e : (255 : UInt8) :: UInt8.ofNat fs.length :: (a ++ b ++ c) ++ r = 255 :: UInt8.ofNat fs.length :: (a ++ (b ++ (c ++ r))) := by simp [List.append_assoc]
          rw [e, bandR_join, joinR_cons (by rw [ofNat_lt (by omega)]; omega), ofNat_lt (by omega)]
          obtain ⟨_, _, _, _, n1, _⟩ := next_short ha (b ++ (c ++ r))
          obtain ⟨_, _, _, _, n2, _⟩ := next_short hb (c ++ r)
          obtain ⟨_, _, _, _, n3, _⟩ := next_short hc r
          rw [n1]
          dsimp only
          rw [show l.length = (Po.tokens fs l).length from by unfold Po.tokens; rw [List.length_map], n2]
          dsimp only
          rw [Po.count_tokens, n3]
          dsimp only
          rw [if_pos (Po.back_err hnd l), Po.back_out hnd l]
/-- What is written is read as it was. -/
theorem band_back {l : List Int} {x : List UInt8} (h : bandW l = some x) (r : List UInt8) : bandR l.length (x ++ r) = .ok (l, r) := by
  unfold bandW at h
  cases hs : short l with
  | none => rw [hs] at h; cases h
  | some s =>
    rw [hs] at h
    simp only [Option.map_some, Option.some.injEq] at h
    have h0 : bandR l.length (s ++ r) = .ok (l, r) := by
      obtain ⟨k, b, rfl, hk, _, h2⟩ := next_short hs r
      have hne : UInt8.ofNat k ≠ 255 := fun e => by
        have h3 := congrArg UInt8.toNat e
        rw [ofNat_lt (by omega)] at h3
        have h4 : (255 : UInt8).toNat = 255 := rfl
        omega
      rw [List.cons_append, bandR_cons hne, ofNat_lt (by omega)]
      exact h2
    have hb : ∀ (best : List UInt8) (m : Nat), m ≤ 15 → bandR l.length (best ++ r) = .ok (l, r) → bandR l.length (better best (fav l m) ++ r) = .ok (l, r) := fun best m hm hbst => by
      cases hf : fav l m with
      | none => exact hbst
      | some y =>
        unfold better
        dsimp only
        split
        · exact band_fav hm hf r
        · exact hbst
    split at h
    · rw [← h]; exact h0
    · rw [← h]
      exact hb _ 15 (by decide) (hb _ 3 (by decide) (hb _ 1 (by decide) h0))
theorem better_le (best : List UInt8) (o : Option (List UInt8)) : (better best o).length ≤ best.length := by
  unfold better
  cases o with
  | none => exact Nat.le_refl _
  | some b => dsimp only; split <;> omega
/-- It is no longer than by any coding alone. -/
theorem band_short {l : List Int} {x : List UInt8} (h : bandW l = some x) {i : Nat} {c : Cod} {b : List UInt8} (hc : cods[i]? = some c) (hr : c.row 0 l = some b) : x.length ≤ b.length + 1 := by
  unfold bandW at h
  cases hs : short l with
  | none => rw [hs] at h; cases h
  | some s =>
    rw [hs] at h
    simp only [Option.map_some, Option.some.injEq] at h
    have h1 := shortTo_is l 15
    rw [show shortTo l 15 = some s from hs] at h1
    have h2 := h1.2 i c b (by have := (List.getElem?_eq_some_iff.1 hc).1; rw [cods_len] at this; exact this) hc hr
    split at h
    · rw [← h]; exact h2
    · rw [← h]
      exact Nat.le_trans (better_le _ _) (Nat.le_trans (better_le _ _) (Nat.le_trans (better_le _ _) h2))
theorem row_bound (c : Cod) : ∀ (l : List Int) (last : Int) (b : List UInt8), c.row last l = some b → ∀ v ∈ l, boundI c.s v = true
  | [], _, _, _, v, hv => by cases hv
  | x :: l, last, b, h, v, hv => by
    unfold Cod.row at h
    split at h
    · rename_i hb
      cases hr : c.row x l with
      | none => rw [hr] at h; cases h
      | some b' =>
        rcases List.mem_cons.1 hv with rfl | hv
        · exact hb.1
        · exact row_bound c l x b' hr v hv
    · cases h
theorem row_some (c : Cod) (hd : c.d = 0) (hf : ∀ v, boundI c.s v = true → c.fits (plainI c.s v) = true) : ∀ (l : List Int) (last : Int), (∀ v ∈ l, boundI c.s v = true) → ∃ b, c.row last l = some b
  | [], _, _ => ⟨[], rfl⟩
  | x :: l, last, h => by
    obtain ⟨b, hb⟩ := row_some c hd hf l x fun v hv => h v (List.mem_cons_of_mem _ hv)
    have hx := h x (List.mem_cons_self ..)
    have e : c.diff last x = x := by unfold Cod.diff; rw [if_neg (by omega)]
    unfold Cod.row
    rw [e, if_pos ⟨hx, hf x hx⟩, hb]
    exact ⟨_, rfl⟩
/-- May numbers stand in a row? -/
def boundsI (l : List Int) : Bool := l.all (boundI 0) || l.all (boundI 1)
theorem short_none {l : List Int} (h : short l = none) : boundsI l = false := by
  have hs := shortTo_is l 15
  rw [show shortTo l 15 = none from h] at hs
  cases hb : boundsI l with
  | false => rfl
  | true =>
    exfalso
    unfold boundsI at hb
    rw [Bool.or_eq_true, List.all_eq_true, List.all_eq_true] at hb
    rcases hb with hb | hb
    · obtain ⟨b, hr⟩ := row_some ⟨5, 64, 0, 0⟩ rfl (fun v hv => by
        unfold boundI at hv
        simp only [if_true] at hv
        have := of_decide_eq_true hv
        unfold Cod.fits plainI Cod.reach
        rw [show min (reachU 64 (5 - 1)) 4294967296 = 4294967296 from by decide]
        exact decide_eq_true (by simp only [if_true]; omega)) l 0 hb
      rw [hs 0 ⟨5, 64, 0, 0⟩ (by decide) rfl] at hr
      cases hr
    · obtain ⟨b, hr⟩ := row_some ⟨5, 64, 1, 0⟩ rfl (fun v hv => by
        unfold boundI at hv
        simp only [show ¬ (1 : Nat) = 0 from by decide, if_false] at hv
        have := of_decide_eq_true hv
        unfold Cod.fits plainI Cod.reach
        rw [show min (reachU 64 (5 - 1)) 4294967296 = 4294967296 from by decide]
        simp only [show ¬ (1 : Nat) = 0 from by decide, if_false, show (2 : Int) ^ 1 = 2 from rfl]
        refine decide_eq_true ?_
        by_cases hv0 : v < 0
        · simp only [hv0, if_true]; omega
        · simp only [hv0, if_false]; omega) l 0 hb
      rw [hs 1 ⟨5, 64, 1, 0⟩ (by decide) rfl] at hr
      cases hr
theorem short_some {l : List Int} {x : List UInt8} (h : short l = some x) : boundsI l = true := by
  have hs := shortTo_is l 15
  rw [show shortTo l 15 = some x from h] at hs
  obtain ⟨⟨i, c, b, _, _, h3, _⟩, _⟩ := hs
  have hb := row_bound c l 0 b h3
  unfold boundsI
  rw [Bool.or_eq_true, List.all_eq_true, List.all_eq_true]
  by_cases h0 : c.s = 0
  · exact .inl fun v hv => by have := hb v hv; rwa [h0] at this
  · refine .inr fun v hv => ?_
    have := hb v hv
    unfold boundI at this ⊢
    rw [if_neg h0] at this
    rw [if_neg (by decide)]
    exact this
theorem short_bounds (l : List Int) : (short l).isSome = boundsI l := by
  cases h : short l with
  | none => rw [short_none h]; rfl
  | some x => rw [short_some h]; rfl
theorem bandW_some (l : List Int) : (bandW l).isSome = boundsI l := by
  unfold bandW
  rw [← short_bounds]
  cases short l <;> rfl
end Go.Proofs.YtkdamaomhppkgaaGreat

/- Layer 27 plain: texts in order, as bytes; what is written is read as it was. No program. -/
namespace Go.Proofs.YtkdamaomhppkgaaGreat
open Pp

/-- How many bytes two texts begin with alike. -/
def shared : List UInt8 → List UInt8 → Nat
  | a :: x, b :: y => if a = b then shared x y + 1 else 0
  | _, _ => 0
theorem shared_le_l : ∀ a b : List UInt8, shared a b ≤ a.length
  | [], b => by simp [shared]
  | a :: x, [] => by simp [shared]
  | a :: x, b :: y => by
    unfold shared
    split
    · have := shared_le_l x y; simp only [List.length_cons]; omega
    · omega
theorem shared_le_r : ∀ a b : List UInt8, shared a b ≤ b.length
  | [], b => by simp [shared]
  | a :: x, [] => by simp [shared]
  | a :: x, b :: y => by
    unfold shared
    split
    · have := shared_le_r x y; simp only [List.length_cons]; omega
    · omega
theorem shared_take : ∀ a b : List UInt8, a.take (shared a b) = b.take (shared a b)
  | [], b => by simp [shared]
  | a :: x, [] => by simp [shared]
  | a :: x, b :: y => by
    unfold shared
    split
    · rename_i h
      rw [h, List.take_succ_cons, List.take_succ_cons, shared_take x y]
    · simp
/-- The columns of texts behind another one. -/
def wBegins : List UInt8 → List (List UInt8) → List Int
  | _, [] => []
  | last, s :: l => (shared last s : Int) :: wBegins s l
def wMore : List UInt8 → List (List UInt8) → List Int
  | _, [] => []
  | last, s :: l => ((s.length - shared last s : Nat) : Int) :: wMore s l
def wTail : List UInt8 → List (List UInt8) → List UInt8
  | _, [] => []
  | last, s :: l => s.drop (shared last s) ++ wTail s l
theorem wBegins_len : ∀ (l : List (List UInt8)) (last : List UInt8), (wBegins last l).length = l.length
  | [], _ => rfl
  | s :: l, last => by simp [wBegins, wBegins_len l s]
theorem wMore_len : ∀ (l : List (List UInt8)) (last : List UInt8), (wMore last l).length = l.length
  | [], _ => rfl
  | s :: l, last => by simp [wMore, wMore_len l s]
def sumL (l : List (List UInt8)) : Nat := (l.map List.length).sum
/-- Each behind the one ahead of it. -/
def risesL : List (List UInt8) → Prop
  | [] => True
  | [_] => True
  | a :: b :: l => a < b ∧ risesL (b :: l)
instance decRises : ∀ l : List (List UInt8), Decidable (risesL l)
  | [] => .isTrue trivial
  | [_] => .isTrue trivial
  | a :: b :: l => by
    unfold risesL
    have := decRises (b :: l)
    infer_instance
/-- Why texts aren't written, or nought. -/
def wordsE (l : List (List UInt8)) : Int := if 16777216 ≤ l.length then 4 else if ¬ risesL l then 2 else if 16777216 < sumL l then 3 else 0
def join3 : Option (List UInt8) → Option (List UInt8) → Option (List UInt8) → List UInt8 → Option (List UInt8)
  | some a, some b, some c, d => some (a ++ b ++ c ++ d)
  | _, _, _, _ => none
theorem join3_some : ∀ {a b c : Option (List UInt8)} {d x : List UInt8}, join3 a b c d = some x → ∃ a' b' c', a = some a' ∧ b = some b' ∧ c = some c' ∧ x = a' ++ b' ++ c' ++ d
  | some a, some b, some c, d, x, h => ⟨a, b, c, rfl, rfl, rfl, (Option.some.inj h).symm⟩
  | none, _, _, _, _, h => by simp [join3] at h
  | some _, none, _, _, _, h => by simp [join3] at h
  | some _, some _, none, _, _, h => by simp [join3] at h
def wordsB (l : List (List UInt8)) : Option (List UInt8) := join3 (bandW [(l.length : Int)]) (bandW (wBegins [] l)) (bandW (wMore [] l)) (wTail [] l)
/-- A band of so many numbers, that may be too many. -/
def bandN (n : Int) (r : List UInt8) : Except Int (List Int × List UInt8) := if n < 0 ∨ 16777216 < n then .error 1 else bandR n.toNat r
/-- The texts, by their columns: behind the last one, with so many bytes told. -/
def wGo (most : Int) (first : Bool) (last : List UInt8) (sum : Int) : List Int → List Int → List UInt8 → Except Int (List (List UInt8) × List UInt8)
  | n :: ns, m :: ms, r =>
    if n < 0 ∨ (last.length : Int) < n ∨ m < 0 then .error 2
    else if most < sum + (n + m) then .error 3
    else if (r.length : Int) < m then .error 6
    else if first = false ∧ ¬ last < last.take n.toNat ++ r.take m.toNat then .error 2
    else match wGo most false (last.take n.toNat ++ r.take m.toNat) (sum + (n + m)) ns ms (r.drop m.toNat) with
      | .error e => .error e
      | .ok (l, r') => .ok ((last.take n.toNat ++ r.take m.toNat) :: l, r')
  | [], _, r => .ok ([], r)
  | _, [], r => .ok ([], r)
def wordsR (most : Int) (r : List UInt8) : Except Int (List (List UInt8) × List UInt8) :=
  if most < 0 ∨ 16777216 < most then .error 1 else
  match bandR 1 r with
  | .error e => .error e
  | .ok (k, r0) => match bandN (k.getD 0 0) r0 with
    | .error e => .error e
    | .ok (ns, r1) => match bandN (k.getD 0 0) r1 with
      | .error e => .error e
      | .ok (ms, r2) => wGo most true [] 0 ns ms r2
theorem wGo_back (most : Int) : ∀ (l : List (List UInt8)) (first : Bool) (last : List UInt8) (sum : Int) (r : List UInt8), (first = true → True) → (first = false → risesL (last :: l)) → risesL l → sum + (sumL l : Int) ≤ most → wGo most first last sum (wBegins last l) (wMore last l) (wTail last l ++ r) = .ok (l, r)
  | [], first, last, sum, r, _, _, _, _ => by simp [wBegins, wGo, wTail]
  | s :: l, first, last, sum, r, _, h2, h3, h4 => by
    have hl := shared_le_l last s
    have hr := shared_le_r last s
    have hsum : sumL (s :: l) = s.length + sumL l := by simp [sumL]
    have htk : last.take (shared last s) ++ (s.drop (shared last s) ++ wTail s l ++ r).take (s.length - shared last s) = s := by
      have e1 : (s.drop (shared last s)).take (s.length - shared last s) = s.drop (shared last s) := List.take_of_length_le (by rw [List.length_drop]; exact Nat.le_refl _)
      rw [shared_take, List.append_assoc, List.take_append_of_le_length (by rw [List.length_drop]; exact Nat.le_refl _), e1, List.take_append_drop]
    have hdr : (s.drop (shared last s) ++ wTail s l ++ r).drop (s.length - shared last s) = wTail s l ++ r := by
      have e1 : (s.drop (shared last s)).drop (s.length - shared last s) = [] := List.drop_of_length_le (by rw [List.length_drop]; exact Nat.le_refl _)
      rw [List.append_assoc, List.drop_append_of_le_length (by rw [List.length_drop]; exact Nat.le_refl _), e1, List.nil_append]
    have hrest : risesL l := by
      cases l with
      | nil => trivial
      | cons b l => exact h3.2
    unfold wBegins wMore wTail
    unfold wGo
    rw [if_neg (by omega), if_neg (by rw [hsum] at h4; omega), if_neg (by simp only [List.length_append, List.length_drop]; omega)]
    simp only [Int.toNat_natCast]
    rw [htk, hdr, if_neg (fun h => h.2 (h2 h.1).1), wGo_back most l false s _ r (fun h => by cases h) (fun _ => h3) hrest (by rw [hsum] at h4; omega)]
theorem bandN_back {l : List Int} {x : List UInt8} (h : bandW l = some x) (hl : l.length ≤ 16777216) (r : List UInt8) : bandN (l.length : Int) (x ++ r) = .ok (l, r) := by
  unfold bandN
  rw [if_neg (by omega), Int.toNat_natCast]
  exact band_back h r
theorem wordsE_zero {l : List (List UInt8)} (h : wordsE l = 0) : l.length < 16777216 ∧ risesL l := by
  unfold wordsE at h
  by_cases h1 : 16777216 ≤ l.length
  · rw [if_pos h1] at h
    exact absurd h (by decide)
  · rw [if_neg h1] at h
    by_cases h2 : risesL l
    · exact ⟨Nat.lt_of_not_le h1, h2⟩
    · rw [if_pos h2] at h
      exact absurd h (by decide)
theorem wordsB_some {l : List (List UInt8)} {x : List UInt8} (h : wordsB l = some x) : ∃ a b c, bandW [(l.length : Int)] = some a ∧ bandW (wBegins [] l) = some b ∧ bandW (wMore [] l) = some c ∧ x = a ++ b ++ c ++ wTail [] l := join3_some h
theorem wordsR_eq {most : Int} (hm : ¬ (most < 0 ∨ 16777216 < most)) {x r0 r1 r2 : List UInt8} {k ns ms : List Int} (h1 : bandR 1 x = .ok (k, r0)) (h2 : bandN (k.getD 0 0) r0 = .ok (ns, r1)) (h3 : bandN (k.getD 0 0) r1 = .ok (ms, r2)) : wordsR most x = wGo most true [] 0 ns ms r2 := by
  unfold wordsR
  rw [if_neg hm, h1]
  dsimp only
  rw [h2]
  dsimp only
  rw [h3]
theorem head_len {most : Int} (hm0 : 0 ≤ most) (hmost : most ≤ 16777216) : ¬ (most < 0 ∨ 16777216 < most) := by omega
/-- The first three bands of what is written. -/
theorem words_head {l : List (List UInt8)} {x : List UInt8} (h : wordsB l = some x) (hlen : l.length < 16777216) {most : Int} (hm0 : 0 ≤ most) (hmost : most ≤ 16777216) (r : List UInt8) : wordsR most (x ++ r) = wGo most true [] 0 (wBegins [] l) (wMore [] l) (wTail [] l ++ r) := by
  obtain ⟨a, b, c, ha, hb, hc, rfl⟩ := wordsB_some h
  have e : a ++ b ++ c ++ wTail [] l ++ r = a ++ (b ++ (c ++ (wTail [] l ++ r))) := by simp only [List.append_assoc]
  have h1 : bandR 1 (a ++ (b ++ (c ++ (wTail [] l ++ r)))) = _ := band_back ha _
  have h2 := bandN_back hb (by rw [wBegins_len]; exact Nat.le_of_lt hlen) (c ++ (wTail [] l ++ r))
  rw [wBegins_len] at h2
  have h3 := bandN_back hc (by rw [wMore_len]; exact Nat.le_of_lt hlen) (wTail [] l ++ r)
  rw [wMore_len] at h3
  rw [e]
  exact wordsR_eq (head_len hm0 hmost) h1 h2 h3
/-- What is written is read as it was, by just that room or more. -/
theorem words_back {l : List (List UInt8)} {x : List UInt8} (h : wordsB l = some x) (he : wordsE l = 0) {most : Int} (hm : (sumL l : Int) ≤ most) (hmost : most ≤ 16777216) (r : List UInt8) : wordsR most (x ++ r) = .ok (l, r) := by
  obtain ⟨hlen, hris⟩ := wordsE_zero he
  rw [words_head h hlen (by omega) hmost r]
  exact wGo_back most l true [] 0 r (fun _ => trivial) (fun h => by cases h) hris (by omega)
/-- By less room it isn't. -/
theorem wGo_less (most : Int) : ∀ (l : List (List UInt8)) (first : Bool) (last : List UInt8) (sum : Int) (r : List UInt8), (first = false → risesL (last :: l)) → risesL l → sum ≤ most → most < sum + (sumL l : Int) → wGo most first last sum (wBegins last l) (wMore last l) (wTail last l ++ r) = .error 3
  | [], first, last, sum, r, _, _, h3, h4 => by simp [sumL] at h4; omega
  | s :: l, first, last, sum, r, h2, h3, h5, h4 => by
    have hl := shared_le_l last s
    have hr := shared_le_r last s
    have hsum : sumL (s :: l) = s.length + sumL l := by simp [sumL]
    have e0 : (s.drop (shared last s)).take (s.length - shared last s) = s.drop (shared last s) := List.take_of_length_le (by rw [List.length_drop]; exact Nat.le_refl _)
    have htk : last.take (shared last s) ++ (s.drop (shared last s) ++ wTail s l ++ r).take (s.length - shared last s) = s := by
      rw [shared_take, List.append_assoc, List.take_append_of_le_length (by rw [List.length_drop]; exact Nat.le_refl _), e0, List.take_append_drop]
    have e1 : (s.drop (shared last s)).drop (s.length - shared last s) = [] := List.drop_of_length_le (by rw [List.length_drop]; exact Nat.le_refl _)
    have hdr : (s.drop (shared last s) ++ wTail s l ++ r).drop (s.length - shared last s) = wTail s l ++ r := by
      rw [List.append_assoc, List.drop_append_of_le_length (by rw [List.length_drop]; exact Nat.le_refl _), e1, List.nil_append]
    have hrest : risesL l := by
      cases l with
      | nil => trivial
      | cons b l => exact h3.2
    unfold wBegins wMore wTail
    unfold wGo
    rw [if_neg (by omega)]
    by_cases h6 : most < sum + (((shared last s : Nat) : Int) + ((s.length - shared last s : Nat) : Int))
    · rw [if_pos h6]
    · rw [if_neg h6, if_neg (by simp only [List.length_append, List.length_drop]; omega)]
      simp only [Int.toNat_natCast]
      rw [htk, hdr, if_neg (fun h => h.2 (h2 h.1).1), wGo_less most l false s _ r (fun _ => h3) hrest (by omega) (by rw [hsum] at h4; omega)]
theorem words_less {l : List (List UInt8)} {x : List UInt8} (h : wordsB l = some x) (he : wordsE l = 0) {most : Int} (hm0 : 0 ≤ most) (hm : most < (sumL l : Int)) (hmost : most ≤ 16777216) (r : List UInt8) : wordsR most (x ++ r) = .error 3 := by
  obtain ⟨hlen, hris⟩ := wordsE_zero he
  rw [words_head h hlen hm0 hmost r]
  exact wGo_less most l true [] 0 r (fun h => by cases h) hris hm0 (by omega)
end Go.Proofs.YtkdamaomhppkgaaGreat

/- Layer 28 plain: a table's bytes; what is written is read as it was. No program. -/
namespace Go.Proofs.YtkdamaomhppkgaaGreat
open Pp

def tOrder : List Int := [3, 4, 5, 6, 7, 8, 12, 9, 10, 11]
/-- What is told of a value: two numbers. -/
def tellA (O : List Pv) (v : Pv) : Int := match v.needs with
  | [] => ((v.bits / 4294967296 : Nat) : Int)
  | x :: _ => ((Pv.rk O x : Nat) : Int)
def tellB (O : List Pv) (v : Pv) : Int := match v.needs with
  | [] => ((v.bits % 4294967296 : Nat) : Int)
  | x :: xs => ((Pv.rk O (xs.getLastD x) : Nat) : Int)
def colsW (O : List Pv) (t : Int) : List (List Int) :=
  if t = 3 ∨ t = 4 then [(Pv.row O t).map (tellB O)] else if t = 7 ∨ t = 8 then [(Pv.row O t).map (tellA O)] else [(Pv.row O t).map (tellA O), (Pv.row O t).map (tellB O)]
def texts (O : List Pv) : List (List UInt8) := (Pv.row O 1).map Pv.text
/-- Bands, one behind the other. -/
def bandsW : List (List Int) → Option (List UInt8)
  | [] => some []
  | x :: xs => match bandW x, bandsW xs with
    | some a, some b => some (a ++ b)
    | _, _ => none
def join2 : Option (List UInt8) → Option (List UInt8) → Option (List UInt8)
  | some a, some b => some (a ++ b)
  | _, _ => none
theorem join2_some : ∀ {a b : Option (List UInt8)} {x : List UInt8}, join2 a b = some x → ∃ a' b', a = some a' ∧ b = some b' ∧ x = a' ++ b'
  | some a, some b, x, h => ⟨a, b, rfl, rfl, (Option.some.inj h).symm⟩
  | none, _, _, h => by simp [join2] at h
  | some _, none, _, h => by simp [join2] at h
/-- The rows of numbers that are told of a table. -/
def rowsW (O : List Pv) : List (List Int) := (tOrder.map fun t => ((Pv.row O t).length : Int)) :: tOrder.flatMap (colsW O)
def tblW (O : List Pv) : Option (List UInt8) := join2 (wordsB (texts O)) (bandsW (rowsW O))
def atT (T : List Pv) (t i : Int) : Option Pv := if i < 0 then none else (Pv.row T t)[i.toNat]?
/-- The value of what is told, if what it needs is there. -/
def madeT (T : List Pv) (t a b : Int) : Option Pv :=
  if t = 7 ∨ t = 8 then (match atT T 1 a with
    | some x => some ⟨t, x.text, 0, [], [], []⟩
    | none => none)
  else if t = 12 then (match atT T 1 a, atT T 1 b with
    | some x, some y => some ⟨t, [], 0, [], x.text, y.text⟩
    | _, _ => none)
  else if t = 9 ∨ t = 10 ∨ t = 11 then (match atT T 7 a, atT T 12 b with
    | some x, some y => some ⟨t, [], 0, x.text, y.name, y.desc⟩
    | _, _ => none)
  else some ⟨t, [], (a % 4294967296).toNat * 4294967296 + (b % 4294967296).toNat, [], [], []⟩
open Classical in
noncomputable def rowGo (T : List Pv) (t : Int) (first : Bool) (p : Pv) : List (Int × Int) → Except Int (List Pv)
  | [] => .ok []
  | ab :: cs => match madeT T t ab.1 ab.2 with
    | none => .error 5
    | some v => if first = false ∧ ¬ Pv.lt p v then .error 2 else match rowGo T t false v cs with
      | .error e => .error e
      | .ok l => .ok (v :: l)
/-- The columns of a tag that are read: pairs. -/
def colsR (t n : Int) (r : List UInt8) : Except Int (List (Int × Int) × List UInt8) :=
  if t = 3 ∨ t = 4 then (match bandN n r with
    | .error e => .error e
    | .ok (b, r1) => .ok (b.map fun y => (0, y), r1))
  else if t = 7 ∨ t = 8 then (match bandN n r with
    | .error e => .error e
    | .ok (a, r1) => .ok (a.map fun x => (x, 0), r1))
  else match bandN n r with
    | .error e => .error e
    | .ok (a, r1) => match bandN n r1 with
      | .error e => .error e
      | .ok (b, r2) => .ok (a.zip b, r2)
noncomputable def rowR (T : List Pv) (t n : Int) (r : List UInt8) : Except Int (List Pv × List UInt8) := match colsR t n r with
  | .error e => .error e
  | .ok (cs, r1) => match rowGo T t true Pv.zero cs with
    | .error e => .error e
    | .ok l => .ok (l, r1)
noncomputable def tblGo (T : List Pv) : List Int → List Int → List UInt8 → Except Int (List Pv × List UInt8)
  | t :: ts, n :: ns, r => match rowR T t n r with
    | .error e => .error e
    | .ok (l, r1) => tblGo (T ++ l) ts ns r1
  | _, _, r => .ok (T, r)
noncomputable def tblR (most : Int) (r : List UInt8) : Except Int (List Pv × List UInt8) := match wordsR most r with
  | .error e => .error e
  | .ok (ss, r0) => match bandN 10 r0 with
    | .error e => .error e
    | .ok (ns, r1) => tblGo (ss.map Pv.ofText) tOrder ns r1
structure Tbl (O : List Pv) : Prop where
  rises : O.Pairwise Pv.lt
  closed : ∀ v ∈ O, ∀ x ∈ v.needs, x ∈ O
  ok : ∀ v ∈ O, v.chk 0 9 5 = 0
theorem bandsW_cons {x : List Int} {xs : List (List Int)} {s : List UInt8} (h : bandsW (x :: xs) = some s) : ∃ a b, bandW x = some a ∧ bandsW xs = some b ∧ s = a ++ b := by
  unfold bandsW at h
  cases h1 : bandW x with
  | none => rw [h1] at h; simp at h
  | some a =>
    cases h2 : bandsW xs with
    | none => rw [h1, h2] at h; simp at h
    | some b =>
      rw [h1, h2] at h
      simp at h
      exact ⟨a, b, rfl, rfl, h.symm⟩
theorem bandsW_app : ∀ {xs ys : List (List Int)} {s : List UInt8}, bandsW (xs ++ ys) = some s → ∃ a b, bandsW xs = some a ∧ bandsW ys = some b ∧ s = a ++ b
  | [], ys, s, h => ⟨[], s, rfl, h, rfl⟩
  | x :: xs, ys, s, h => by
    obtain ⟨a, b, h1, h2, rfl⟩ := bandsW_cons h
    obtain ⟨c, d, h3, h4, rfl⟩ := bandsW_app h2
    refine ⟨a ++ c, d, ?_, h4, by rw [List.append_assoc]⟩
    unfold bandsW
    rw [h1, h3]
theorem atT_rk {O T : List Pv} {x : Pv} {t : Int} (hx : x ∈ O) (ht : x.tag = t) (hT : Pv.row T t = Pv.row O t) : atT T t ((Pv.rk O x : Nat) : Int) = some x := by
  unfold atT
  rw [if_neg (by omega), Int.toNat_natCast, hT, ← ht]
  exact row_get hx
/-- What is told of a value makes it again. -/
theorem made_back {O T : List Pv} (hO : Tbl O) {v : Pv} (hv : v ∈ O) (h1 : Pv.row T 1 = Pv.row O 1) (h7 : v.tag = 9 ∨ v.tag = 10 ∨ v.tag = 11 → Pv.row T 7 = Pv.row O 7 ∧ Pv.row T 12 = Pv.row O 12) (hn : v.tag ≠ 1)
    {a b : Int} (ha : a = tellA O v ∨ v.tag = 3 ∨ v.tag = 4) (ha0 : v.tag = 3 ∨ v.tag = 4 → a = 0) (hb : b = tellB O v ∨ v.tag = 7 ∨ v.tag = 8) (hbits : v.bits < 18446744073709551616) : madeT T v.tag a b = some v := by
  have hc := hO.ok v hv
  have hcl := hO.closed v hv
  obtain ⟨tag, text, bits, cls, name, desc⟩ := v
  dsimp only at *
  unfold Pv.chk at hc
  dsimp only at hc
  unfold madeT
  by_cases c7 : tag = 7 ∨ tag = 8
  · rw [if_pos c7]
    rw [if_pos (by omega)] at hc
    by_cases hz : bits = 0 ∧ cls = [] ∧ name = [] ∧ desc = []
    · obtain ⟨rfl, rfl, rfl, rfl⟩ := hz
      have hne : Pv.needs ⟨tag, text, 0, [], [], []⟩ = [Pv.ofText text] := by unfold Pv.needs; rw [if_pos c7]
      have hin := hcl (Pv.ofText text) (by rw [hne]; simp)
      have ha' : a = ((Pv.rk O (Pv.ofText text) : Nat) : Int) := by
        rcases ha with h | h
        · rw [h]; unfold tellA; rw [hne]
        · omega
      have k1 := atT_rk (t := 1) hin rfl h1
      rw [ha', k1]
      rfl
    · rw [if_neg hz] at hc; exact absurd hc (by decide)
  · rw [if_neg c7]
    by_cases c12 : tag = 12
    · rw [if_pos c12]
      rw [if_neg (by omega), if_neg (by omega), if_pos c12] at hc
      by_cases hz : text = [] ∧ bits = 0 ∧ cls = []
      · obtain ⟨rfl, rfl, rfl⟩ := hz
        have hne : Pv.needs ⟨tag, [], 0, [], name, desc⟩ = [Pv.ofText name, Pv.ofText desc] := by unfold Pv.needs; rw [if_neg c7, if_pos c12]
        have hi1 := hcl (Pv.ofText name) (by rw [hne]; simp)
        have hi2 := hcl (Pv.ofText desc) (by rw [hne]; simp)
        have ha' : a = ((Pv.rk O (Pv.ofText name) : Nat) : Int) := by
          rcases ha with h | h
          · rw [h]; unfold tellA; rw [hne]
          · omega
        have hb' : b = ((Pv.rk O (Pv.ofText desc) : Nat) : Int) := by
          rcases hb with h | h
          · rw [h]; unfold tellB; rw [hne]; rfl
          · omega
        have k1 := atT_rk (t := 1) hi1 rfl h1
        have k2 := atT_rk (t := 1) hi2 rfl h1
        rw [ha', hb', k1, k2]
        rfl
      · rw [if_neg hz] at hc; exact absurd hc (by decide)
    · rw [if_neg c12]
      by_cases c9 : tag = 9 ∨ tag = 10 ∨ tag = 11
      · rw [if_pos c9]
        rw [if_neg (by omega), if_neg (by omega), if_neg c12, if_pos c9] at hc
        by_cases hz : text = [] ∧ bits = 0
        · obtain ⟨rfl, rfl⟩ := hz
          obtain ⟨r7, r12⟩ := h7 c9
          have hne : Pv.needs ⟨tag, [], 0, cls, name, desc⟩ = [Pv.ofCls cls, Pv.ofPair name desc] := by unfold Pv.needs; rw [if_neg c7, if_neg c12, if_pos c9]
          have hi1 := hcl (Pv.ofCls cls) (by rw [hne]; simp)
          have hi2 := hcl (Pv.ofPair name desc) (by rw [hne]; simp)
          have ha' : a = ((Pv.rk O (Pv.ofCls cls) : Nat) : Int) := by
            rcases ha with h | h
            · rw [h]; unfold tellA; rw [hne]
            · omega
          have hb' : b = ((Pv.rk O (Pv.ofPair name desc) : Nat) : Int) := by
            rcases hb with h | h
            · rw [h]; unfold tellB; rw [hne]; rfl
            · omega
          have k1 := atT_rk (t := 7) hi1 rfl r7
          have k2 := atT_rk (t := 12) hi2 rfl r12
          rw [ha', hb', k1, k2]
          rfl
        · rw [if_neg hz] at hc; exact absurd hc (by decide)
      · rw [if_neg c9]
        have c3 : tag = 3 ∨ tag = 4 ∨ tag = 5 ∨ tag = 6 := by
          by_cases c3 : tag = 3 ∨ tag = 4 ∨ tag = 5 ∨ tag = 6
          · exact c3
          · rw [if_neg (by omega), if_neg c3, if_neg c12, if_neg c9] at hc; exact absurd hc (by decide)
        rw [if_neg (by omega), if_pos c3] at hc
        by_cases hz : text = [] ∧ cls = [] ∧ name = [] ∧ desc = []
        · rw [if_pos hz] at hc
          obtain ⟨rfl, rfl, rfl, rfl⟩ := hz
          have hne : Pv.needs ⟨tag, [], bits, [], [], []⟩ = [] := by unfold Pv.needs; rw [if_neg c7, if_neg c12, if_neg c9]
          have hb' : b = ((bits % 4294967296 : Nat) : Int) := by
            rcases hb with h | h
            · rw [h]; unfold tellB; rw [hne]
            · omega
          have hab : (a % 4294967296).toNat = bits / 4294967296 := by
            by_cases c4 : tag = 3 ∨ tag = 4
            · have h0 := ha0 c4
              have hlt : ¬ ((tag = 3 ∨ tag = 4) ∧ 4294967296 ≤ bits) := fun h => by rw [if_pos h] at hc; exact absurd hc (by decide)
              subst h0
              omega
            · rcases ha with h | h
              · have h9 : a = ((bits / 4294967296 : Nat) : Int) := by rw [h]; unfold tellA; rw [hne]
                subst h9
                omega
              · omega
          rw [hab, hb']
          congr 2
          omega
        · rw [if_neg hz] at hc; exact absurd hc (by decide)
end Go.Proofs.YtkdamaomhppkgaaGreat

/- Maps by values that the call makes. -/
namespace Go.Proofs.YtkdamaomhppkgaaGreat
open Go.RowKit Go.Maps

theorem laidOutV : laidOutB Tryz.prog = true := by kernel_rfl
theorem rowV : (36 : TypeId) < Tryz.prog.types.size := of_decide_eq_true (by kernel_rfl)
theorem wideV : (match Tryz.prog.underlying 36 with | some (.array _ _) | some (.struct _) => true | _ => false) = true := by rw [Tryz.underlying36]
theorem deepV : Tryz.prog.keyTypeAt 2 36 = true := by kernel_rfl
set_option maxRecDepth 100000 in
theorem lawV : Keyed Tryz.prog 36 := Keyed.of_law (deep_law_laid laidOutV (m := 2) (by omega) rowV deepV wideV)
theorem cellsV : Tryz.prog.cellsOf 36 = 6 := by kernel_rfl
theorem cellsS : Tryz.prog.cellsOf 9 = 1 := by kernel_rfl
theorem cellsI : Tryz.prog.cellsOf 3 = 1 := by kernel_rfl
theorem cellsU : Tryz.prog.cellsOf 34 = 1 := by kernel_rfl
theorem keyTypeV : Tryz.prog.keyType 36 = true := by kernel_rfl
theorem succ_of_lt : ∀ {m n : Nat}, m < n → ∃ k, n = k + 1
  | _, 0, h => absurd h (Nat.not_lt_zero _)
  | _, n + 1, _ => ⟨n, rfl⟩
set_option maxRecDepth 100000 in
theorem size_succ : ∃ n, Tryz.prog.types.size = n + 1 := succ_of_lt rowV
/-- What a value is as a key. -/
def kv (v : Pv) : Lit := .string (keyBytes [.int .i64 v.tag, .string v.text, .int .u64 v.bits, .string v.cls, .string v.name, .string v.desc])
theorem bs_data (l : List UInt8) : (bs l).data.toList = l := by simp [bs]
/-- A value that may be a key. -/
def Pv.fitsK (v : Pv) : Prop := I64 v.tag ∧ v.bits < 18446744073709551616 ∧ v.text.length ≤ maxLen ∧ v.cls.length ≤ maxLen ∧ v.name.length ≤ maxLen ∧ v.desc.length ≤ maxLen
theorem Pv.fits.k {v : Pv} (h : v.fits) : v.fitsK := by
  obtain ⟨h0, h1, h2, h3, h4, h5⟩ := h
  exact ⟨h0, h1, by unfold maxLen; omega, by unfold maxLen; omega, by unfold maxLen; omega, by unfold maxLen; omega⟩
theorem wfI {x : Int} : (Lit.int .i64 x).wf = true ↔ I64 x := by
  unfold I64
  simp [Lit.wf, IntKind.min, IntKind.max, IntKind.signed, IntKind.bits]
theorem wfU {x : Int} : (Lit.int .u64 x).wf = true ↔ 0 ≤ x ∧ x < 18446744073709551616 := by
  simp [Lit.wf, IntKind.min, IntKind.max, IntKind.signed, IntKind.bits]
  omega
theorem keyV {v : Pv} (h : v.fitsK) : keyOf Tryz.prog 36 (vv v) = some (kv v) := by
  obtain ⟨h0, h1, m2, m3, m4, m5⟩ := h
  have hw0 : (Lit.int .i64 v.tag).wf = true := wfI.2 h0
  have hw1 : (Lit.int .u64 (v.bits : Int)).wf = true := wfU.2 ⟨by omega, by omega⟩
  obtain ⟨n, hs⟩ := size_succ
  unfold keyOf vv
  rw [Tryz.underlying36]
  simp only [keyTypeV, Value.formed, Tryz.underlying36, cellsV, hs]
  simp [Program.keyLits, Tryz.underlying36, Tryz.underlying3, Tryz.underlying9, Tryz.underlying34, cellsV, cellsS, cellsI, cellsU, hw0, hw1, bs_size, m2, m3, m4, m5, kv, Value.cells, bs_data]
theorem vv_inj {a b : Pv} (h : vv a = vv b) : a = b := by
  unfold vv at h
  simp only [Value.agg.injEq, Array.mk.injEq, List.cons.injEq, Value.int.injEq, Value.string.injEq, true_and, and_true] at h
  obtain ⟨h0, h1, h2, h3, h4, h5⟩ := h
  exact (Pv.key_inj (by
    unfold Pv.key
    rw [h0, bs_inj h1, bs_inj h3, bs_inj h4, bs_inj h5, show a.bits = b.bits by omega]))
theorem kv_inj {a b : Pv} (ha : a.fitsK) (hb : b.fitsK) (h : kv a = kv b) : a = b := vv_inj (lawV.inj (keyV ha) (h ▸ keyV hb))
theorem litI {n : Nat} {a : Value} {L : List Lit} (h : Tryz.prog.keyLits (n + 1) 3 [a] = some L) : ∃ x, a = .int .i64 x ∧ I64 x ∧ L = [.int .i64 x] := by
  cases a <;> simp [Program.keyLits, Tryz.underlying3] at h
  obtain ⟨⟨rfl, hw⟩, rfl⟩ := h
  exact ⟨_, rfl, wfI.1 hw, rfl⟩
theorem litU {n : Nat} {a : Value} {L : List Lit} (h : Tryz.prog.keyLits (n + 1) 34 [a] = some L) : ∃ x : Nat, a = .int .u64 x ∧ x < 18446744073709551616 ∧ L = [.int .u64 x] := by
  cases a <;> simp [Program.keyLits, Tryz.underlying34] at h
  rename_i k x
  obtain ⟨⟨rfl, hw⟩, rfl⟩ := h
  obtain ⟨h1, h2⟩ := wfU.1 hw
  obtain ⟨m, rfl⟩ : ∃ m : Nat, x = (m : Int) := ⟨x.toNat, by omega⟩
  exact ⟨m, rfl, by omega, rfl⟩
theorem litS {n : Nat} {a : Value} {L : List Lit} (h : Tryz.prog.keyLits (n + 1) 9 [a] = some L) : ∃ x, a = .string (bs x) ∧ x.length ≤ maxLen ∧ L = [.string x] := by
  cases a <;> simp [Program.keyLits, Tryz.underlying9] at h
  rename_i s
  obtain ⟨hw, rfl⟩ := h
  exact ⟨s.data.toList, rfl, by rw [Array.length_toList]; exact hw, rfl⟩
set_option maxHeartbeats 1000000 in
set_option maxRecDepth 100000 in
theorem keyV_inv {key : Value} {kl : Lit} (h : keyOf Tryz.prog 36 key = some kl) : ∃ v : Pv, v.fitsK ∧ key = vv v ∧ kl = kv v := by
  obtain ⟨xs, L, rfl, hl, rfl⟩ := keyOf_top wideV h
  obtain ⟨n, hs⟩ := size_succ
  rw [hs] at hl
  obtain ⟨l⟩ := xs
  unfold Program.keyLits at hl
  simp only [Tryz.underlying36, cellsV] at hl
  split at hl
  · rename_i hc
    have h6 := hc.1
    match l, h6 with
    | [a, b, c, d, e, f], _ =>
      simp only [List.mapM_cons, List.mapM_nil, cellsS, cellsI, cellsU, List.drop_succ_cons, List.drop_zero, List.take_succ_cons, List.take_zero, Option.map_eq_some_iff, Option.bind_eq_bind, Option.bind_eq_some_iff, Option.pure_def, Option.some.injEq] at hl
      obtain ⟨_, ⟨L0, h0, _, ⟨L1, h1, _, ⟨L2, h2, _, ⟨L3, h3, _, ⟨L4, h4, _, ⟨L5, h5, _, rfl, rfl⟩, rfl⟩, rfl⟩, rfl⟩, rfl⟩, rfl⟩, rfl⟩ := hl
      obtain ⟨x0, rfl, g0, rfl⟩ := litI h0
      obtain ⟨x1, rfl, g1, rfl⟩ := litS h1
      obtain ⟨x2, rfl, g2, rfl⟩ := litU h2
      obtain ⟨x3, rfl, g3, rfl⟩ := litS h3
      obtain ⟨x4, rfl, g4, rfl⟩ := litS h4
      obtain ⟨x5, rfl, g5, rfl⟩ := litS h5
      exact ⟨⟨x0, x1, x2, x3, x4, x5⟩, ⟨g0, g2, g1, g3, g4, g5⟩, rfl, rfl⟩
  · cases hl

/-! ### Sets of values -/
theorem zeroB (w : World) : (zeroValue 4).run Tryz.prog w = .ok (.bool false) w := by kernel_rfl
theorem zeroN (w : World) : (zeroValue 3).run Tryz.prog w = .ok (.int .i64 0) w := by kernel_rfl
set_option maxRecDepth 100000 in
theorem plainB_inv {v : Value} {z : DataW Unit × List MemPlace} (h : plainElem (H := Unit) Tryz.prog 4 v = some z) : ∃ x, v = .bool x ∧ z = (.lit (.bool x), []) := by
  unfold plainElem at h
  rw [Tryz.underlying4] at h
  cases v <;> simp at h
  exact ⟨_, rfl, h.symm⟩
noncomputable abbrev RB := plainElem (H := Unit) Tryz.prog 4
noncomputable abbrev RN := plainElem (H := Unit) Tryz.prog 3
def SetIs (D : DataW Unit) (S : Pv → Bool) : Prop := (∀ v : Pv, v.fitsK → D.atKey (kv v) (.lit (.bool false)) = .lit (.bool (S v))) ∧ ∀ v : Pv, v.fitsK → Maps.has D (kv v) = S v
def VSet (w : World) (b n : Nat) (S : Pv → Bool) : Prop := ∃ D : DataW Unit, w.ownsMap Tryz.prog 36 RB b n D ∧ SetIs D S
def VNum (w : World) (b n : Nat) (f : Pv → Int) : Prop := ∃ D : DataW Unit, w.ownsMap Tryz.prog 36 RN b n D ∧ ∀ v : Pv, v.fitsK → D.atKey (kv v) (.lit (.int .i64 0)) = .lit (.int .i64 (f v))
theorem isKeyV (v : Pv) : WideAt.IsKeyLit (kv v) := trivial
theorem VSet.made (w : World) : VSet (w.alloc (.map #[] 0)) w.heap.size 0 (fun _ => false) := ⟨.map [], World.ownsMap_made _ _ _ _, fun _ _ => rfl, fun _ _ => rfl⟩
theorem VNum.made (w : World) : VNum (w.alloc (.map #[] 0)) w.heap.size 0 (fun _ => 0) := ⟨.map [], World.ownsMap_made _ _ _ _, fun _ _ => rfl⟩
section
variable {w w1 : World} {b n : Nat} {S : Pv → Bool} {f : Pv → Int} {o : Option Nat}
theorem VSet.kept (h : VSet w b n S) (k : w.grownBy w1 o) (hne : some b ≠ o) : VSet w1 b n S := by
  obtain ⟨D, h1, h2⟩ := h
  exact ⟨D, h1.kept k hne, h2⟩
theorem VNum.kept (h : VNum w b n f) (k : w.grownBy w1 o) (hne : some b ≠ o) : VNum w1 b n f := by
  obtain ⟨D, h1, h2⟩ := h
  exact ⟨D, h1.kept k hne, h2⟩
theorem VSet.grow (h : VSet w b n S) (k : Below w.heap.size w w1) : VSet w1 b n S := h.kept (grownBy_below k none) (by simp)
theorem VNum.grow (h : VNum w b n f) (k : Below w.heap.size w w1) : VNum w1 b n f := h.kept (grownBy_below k none) (by simp)
theorem VSet.lt (h : VSet w b n S) : b < w.heap.size := by
  obtain ⟨D, h1, _⟩ := h
  exact h1.lt
theorem VNum.lt (h : VNum w b n f) : b < w.heap.size := by
  obtain ⟨D, h1, _⟩ := h
  exact h1.lt
/-- A block of cells is none. -/
theorem VSet.ne {g : Nat} {c : Array Value} {t : TypeId} {fr : Nat × Nat} (h : VSet w b n S) (hg : w.heap[g]? = some (.cells c t fr)) : b ≠ g := by
  rintro rfl
  obtain ⟨D, ⟨es, clock, hb, _⟩, _⟩ := h
  rw [hg] at hb
  cases hb
theorem VNum.ne {g : Nat} {c : Array Value} {t : TypeId} {fr : Nat × Nat} (h : VNum w b n f) (hg : w.heap[g]? = some (.cells c t fr)) : b ≠ g := by
  rintro rfl
  obtain ⟨D, ⟨es, clock, hb, _⟩, _⟩ := h
  rw [hg] at hb
  cases hb
set_option maxRecDepth 100000 in
theorem VSet.look (h : VSet w b n S) {v : Pv} (hv : v.fitsK) : (Instr.lookup 53 (.map (some b)) (vv v) false).run Tryz.prog w = .ok (.bool (S v)) w := by
  obtain ⟨D, h1, h2, _⟩ := h
  obtain ⟨u, ps, hr, hu⟩ := h1.lookup lawV Tryz.underlying53 (zeroB w) (plainElem_bool Tryz.underlying4 false) (keyV hv)
  obtain ⟨x, rfl, hz⟩ := plainB_inv hu
  rw [h2 v hv] at hz
  injection hz with hz _
  injection hz with hz
  injection hz with hz
  rw [hr, hz]
set_option maxRecDepth 100000 in
theorem VNum.look (h : VNum w b n f) {v : Pv} (hv : v.fitsK) : (Instr.lookup 68 (.map (some b)) (vv v) false).run Tryz.prog w = .ok (.int .i64 (f v)) w := by
  obtain ⟨D, h1, h2⟩ := h
  obtain ⟨c, hr, hat, _⟩ := h1.lookup_int lawV Tryz.underlying68 Tryz.underlying3 (zeroN w) (keyV hv)
  rw [h2 v hv] at hat
  injection hat with hat
  injection hat with _ hat
  rw [hr, ← hat]
/-- One value more. -/
theorem SetIs.put {D : DataW Unit} (h : SetIs D S) (hD : IsMap D) {v : Pv} (hv : v.fitsK) : SetIs (D.put (kv v) (.lit (.bool true))) (fun x => decide (x = v) || S x) := by
  refine ⟨fun x hx => ?_, fun x hx => ?_⟩
  · by_cases e : x = v
    · subst e; rw [atKey_put_same hD (isKeyV x)]; simp
    · rw [atKey_put_other (fun h => e (kv_inj hx hv h)), h.1 x hx]; simp [e]
  · by_cases e : x = v
    · subst e; rw [has_put_same hD (isKeyV x)]; simp
    · rw [has_put_other (fun h => e (kv_inj hx hv h)), h.2 x hx]; simp [e]
/-- One value less. -/
theorem SetIs.del {D : DataW Unit} (h : SetIs D S) {v : Pv} (hv : v.fitsK) : SetIs (D.del (kv v)) (fun x => !decide (x = v) && S x) := by
  refine ⟨fun x hx => ?_, fun x hx => ?_⟩
  · by_cases e : x = v
    · subst e; rw [atKey_del_same]; simp
    · rw [atKey_del_other (fun h => e (kv_inj hx hv h)), h.1 x hx]; simp [e]
  · by_cases e : x = v
    · subst e; rw [has_del_same]; simp
    · rw [has_del_other (fun h => e (kv_inj hx hv h)), h.2 x hx]; simp [e]
end
/-- At a walk's operation: a value is put into a set. -/
theorem wpList_setPut {w : World} {ops : Array Oper} {rest : List Oper} {o : Oper} {a : Act} {Q : Exit → Act → World → Prop} (hg : o.guard = none) (m x u : Operand) (hop : o.op = Op.mapUpdate 53 m x u) (b n : Nat) (S : Pv → Bool) (v : Pv)
    (hm : a.eval m = .map (some b)) (hown : VSet w b n S) (hn : n < maxLen) (hv : v.fitsK) (hx : a.eval x = vv v) (hu : a.eval u = .bool true)
    (hK : ∀ w', VSet w' b (n + 1) (fun x => decide (x = v) || S x) → w.grownBy w' (some b) → wpList Tryz.prog ops Q rest (a.put o.dst undef) w') : wpList Tryz.prog ops Q (o :: rest) a w := by
  obtain ⟨D, h1, h2⟩ := hown
  refine wpList_mapUpdate_own w hg m x u 53 hop 36 4 lawV Tryz.underlying53 RB b n D hm h1 hn (vv v) (.bool true) (kv v) hx hu (keyV hv) (.lit (.bool true)) [] (plainElem_bool Tryz.underlying4 true) fun w' r1 r2 => hK w' ⟨_, r1, h2.put h1.isMap hv⟩ r2
/-- .. is struck. -/
theorem wpList_setDel {w : World} {ops : Array Oper} {rest : List Oper} {o : Oper} {a : Act} {Q : Exit → Act → World → Prop} (hg : o.guard = none) (m x : Operand) (hop : o.op = Op.call { callee := Callee.builtin Builtin.delete, args := #[m, x], argTypes := #[53, 36] }) (b n : Nat) (S : Pv → Bool) (v : Pv)
    (hm : a.eval m = .map (some b)) (hown : VSet w b n S) (hv : v.fitsK) (hx : a.eval x = vv v)
    (hK : ∀ w', VSet w' b n (fun x => !decide (x = v) && S x) → w.grownBy w' (some b) → wpList Tryz.prog ops Q rest (a.put o.dst (.tuple #[])) w') : wpList Tryz.prog ops Q (o :: rest) a w := by
  obtain ⟨D, h1, h2⟩ := hown
  refine wpList_delete_own w hg m x 53 36 hop 4 lawV Tryz.underlying53 RB b n D hm h1 (vv v) (kv v) hx (keyV hv) fun w' r1 r2 => hK w' ⟨_, r1, h2.del hv⟩ r2.grown
/-- A value is given a number. -/
theorem VNum.put {w w1 : World} {b n : Nat} {D : DataW Unit} {f : Pv → Int} {v : Pv} {x : Int} (hown : w.ownsMap Tryz.prog 36 RN b n D) (h2 : ∀ v : Pv, v.fitsK → D.atKey (kv v) (.lit (.int .i64 0)) = .lit (.int .i64 (f v))) (hv : v.fitsK)
    (h1 : w1.ownsMap Tryz.prog 36 RN b (n + 1) (D.put (kv v) (.lit (.int .i64 x)))) : VNum w1 b (n + 1) (fun u => if u = v then x else f u) := by
  refine ⟨_, h1, fun u hu => ?_⟩
  by_cases e : u = v
  · subst e; rw [atKey_put_same hown.isMap (isKeyV u)]; simp
  · rw [atKey_put_other (fun h => e (kv_inj hu hv h)), h2 u hu]; simp [e]
end Go.Proofs.YtkdamaomhppkgaaGreat

/- A map of values' numbers that is asked with 'is it there'. -/
namespace Go.Proofs.YtkdamaomhppkgaaGreat
open Go.RowKit Go.Maps

def VTab (w : World) (b n : Nat) (f : Pv → Int) (S : Pv → Bool) : Prop :=
  ∃ D : DataW Unit, w.ownsMap Tryz.prog 36 RN b n D ∧ (∀ v : Pv, v.fitsK → D.atKey (kv v) (.lit (.int .i64 0)) = .lit (.int .i64 (f v))) ∧ ∀ v : Pv, v.fitsK → Maps.has D (kv v) = S v
theorem VTab.made (w : World) : VTab (w.alloc (.map #[] 0)) w.heap.size 0 (fun _ => 0) (fun _ => false) := ⟨.map [], World.ownsMap_made _ _ _ _, fun _ _ => rfl, fun _ _ => rfl⟩
section
variable {w w1 : World} {b n : Nat} {S : Pv → Bool} {f : Pv → Int} {o : Option Nat}
theorem VTab.kept (h : VTab w b n f S) (k : w.grownBy w1 o) (hne : some b ≠ o) : VTab w1 b n f S := by
  obtain ⟨D, h1, h2⟩ := h
  exact ⟨D, h1.kept k hne, h2⟩
theorem VTab.grow (h : VTab w b n f S) (k : Below w.heap.size w w1) : VTab w1 b n f S := h.kept (grownBy_below k none) (by simp)
theorem VTab.lt (h : VTab w b n f S) : b < w.heap.size := by
  obtain ⟨D, h1, _⟩ := h
  exact h1.lt
theorem VTab.ne {g : Nat} {c : Array Value} {t : TypeId} {fr : Nat × Nat} (h : VTab w b n f S) (hg : w.heap[g]? = some (.cells c t fr)) : b ≠ g := by
  rintro rfl
  obtain ⟨D, ⟨es, clock, hb, _⟩, _⟩ := h
  rw [hg] at hb
  cases hb
theorem VTab.same {f' : Pv → Int} {S' : Pv → Bool} (h : VTab w b n f S) (hf : ∀ v, f v = f' v) (hS : ∀ v, S v = S' v) : VTab w b n f' S' := by
  obtain rfl : f = f' := funext hf
  obtain rfl : S = S' := funext hS
  exact h
set_option maxRecDepth 100000 in
theorem VTab.look (h : VTab w b n f S) {v : Pv} (hv : v.fitsK) : (Instr.lookup 68 (.map (some b)) (vv v) true).run Tryz.prog w = .ok (.tuple #[.int .i64 (f v), .bool (S v)]) w := by
  obtain ⟨D, h1, h2, h3⟩ := h
  obtain ⟨u, ps, hr, hu⟩ := h1.look_ok lawV Tryz.underlying68 (zeroN w) (plainElem_int Tryz.underlying3 (by decide)) (keyV hv)
  obtain ⟨c, rfl, hc, _⟩ := plainElem_int_inv Tryz.underlying3 hu
  have hat := congrArg Prod.fst hc
  dsimp only at hat
  rw [h2 v hv] at hat
  injection hat with hat
  injection hat with _ hat
  rw [hr, h3 v hv, ← hat]
set_option maxRecDepth 100000 in
theorem VTab.look1 (h : VTab w b n f S) {v : Pv} (hv : v.fitsK) : (Instr.lookup 68 (.map (some b)) (vv v) false).run Tryz.prog w = .ok (.int .i64 (f v)) w := by
  obtain ⟨D, h1, h2, _⟩ := h
  exact VNum.look ⟨D, h1, h2⟩ hv
end
/-- At a walk's operation: a value is given a number. -/
theorem wpList_tabPut {w : World} {ops : Array Oper} {rest : List Oper} {o : Oper} {a : Act} {Q : Exit → Act → World → Prop} (hg : o.guard = none) (m x u : Operand) (hop : o.op = Op.mapUpdate 68 m x u) (b n : Nat) (f : Pv → Int) (S : Pv → Bool) (v : Pv) (y : Int)
    (hm : a.eval m = .map (some b)) (hown : VTab w b n f S) (hn : n < maxLen) (hv : v.fitsK) (hx : a.eval x = vv v) (hu : a.eval u = .int .i64 y) (hy : I64 y)
    (hK : ∀ w', VTab w' b (n + 1) (fun x => if x = v then y else f x) (fun x => decide (x = v) || S x) → w.grownBy w' (some b) → wpList Tryz.prog ops Q rest (a.put o.dst undef) w') : wpList Tryz.prog ops Q (o :: rest) a w := by
  obtain ⟨D, h1, h2, h3⟩ := hown
  refine wpList_mapUpdate_own w hg m x u 68 hop 36 3 lawV Tryz.underlying68 RN b n D hm h1 hn (vv v) (.int .i64 y) (kv v) hx hu (keyV hv) (.lit (.int .i64 y)) [] (plainElem_int Tryz.underlying3 (wfI.2 hy)) fun w' r1 r2 => hK w' ⟨_, r1, fun x hx => ?_, fun x hx => ?_⟩ r2
  · by_cases e : x = v
    · subst e; rw [atKey_put_same h1.isMap (isKeyV x)]; simp
    · rw [atKey_put_other (fun h => e (kv_inj hx hv h)), h2 x hx]; simp [e]
  · by_cases e : x = v
    · subst e; rw [has_put_same h1.isMap (isKeyV x)]; simp
    · rw [has_put_other (fun h => e (kv_inj hx hv h)), h3 x hx]; simp [e]
end Go.Proofs.YtkdamaomhppkgaaGreat

/- A table: a box with thirteen rows of values and a map. -/
namespace Go.Proofs.YtkdamaomhppkgaaGreat
open Go.RowKit Go.Maps

def TBox (w : World) (b : Nat) (us : Nat → Value) (m : Nat) : Prop := ∃ cs : Array Value, w.heap[b]? = some (.cells cs 70 (0, 0)) ∧ cs.size = 14 ∧ (∀ t, t < 13 → cs[t]? = some (us t)) ∧ cs[13]? = some (.map (some m))
section
variable {w w1 : World} {b m : Nat} {us : Nat → Value}
theorem TBox.lt (h : TBox w b us m) : b < w.heap.size := by
  obtain ⟨cs, h1, _⟩ := h
  exact (Array.getElem?_eq_some_iff.1 h1).1
theorem TBox.keep {B : Nat} (h : TBox w b us m) (k : Below B w w1) (hb : b < B) : TBox w1 b us m := by
  obtain ⟨cs, h1, h2⟩ := h
  exact ⟨cs, (k.block b hb).trans h1, h2⟩
theorem TBox.kept {o : Option Nat} (h : TBox w b us m) (k : w.grownBy w1 o) (hne : some b ≠ o) : TBox w1 b us m := by
  have hl := h.lt
  obtain ⟨cs, h1, h2⟩ := h
  exact ⟨cs, (k.block b hl hne).trans h1, h2⟩
theorem TBox.cell (h : TBox w b us m) {t : Nat} (ht : t < 13) : w.cell? ⟨b, t, none⟩ = some (us t) := by
  obtain ⟨cs, h1, _, h3, _⟩ := h
  exact ((blk_facts h1).1 t).trans (h3 t ht)
theorem TBox.map (h : TBox w b us m) : w.cell? ⟨b, 13, none⟩ = some (.map (some m)) := by
  obtain ⟨cs, h1, _, _, h4⟩ := h
  exact ((blk_facts h1).1 13).trans h4
theorem TBox.frozen (h : TBox w b us m) (t : Nat) : w.frozen? ⟨b, t, none⟩ = false := by
  obtain ⟨cs, h1, _⟩ := h
  exact (blk_facts h1).2 t
theorem TBox.set (h : TBox w b us m) {t : Nat} (ht : t < 13) (v : Value) : TBox (w.setCell ⟨b, t, none⟩ v) b (fun k => if k = t then v else us k) m := by
  obtain ⟨cs, h1, h2, h3, h4⟩ := h
  refine ⟨cs.setIfInBounds t v, ?_, by simpa using h2, fun k hk => ?_, ?_⟩
  · simp [World.setCell, Array.getElem?_modify, h1]
  · rw [Array.getElem?_setIfInBounds]
    by_cases e : k = t
    · subst e
      rw [if_pos rfl, if_pos (by omega)]
      dsimp only
      rw [if_pos rfl]
    · rw [if_neg (fun h => e h.symm)]
      dsimp only
      rw [if_neg e]
      exact h3 k hk
  · rw [Array.getElem?_setIfInBounds, if_neg (by omega)]
    exact h4
theorem TBox.turned (h : TBox w b us m) (t : Nat) (v : Value) : w.grownBy (w.setCell ⟨b, t, none⟩ v) (some b) := by
  obtain ⟨cs, h1, _⟩ := h
  rw [setCell_eq_setRow w b t cs 70 (0, 0) v h1]
  exact ⟨rfl, rfl, rfl, by simp, fun k _ hne => setRow_other w b k _ (fun hh => hne (by rw [hh]))⟩
/-- A row of values is not the box. -/
theorem TBox.apart {x : World} {base : Nat} {u : Value} {xs : List Pv} (h : TBox w b us m) (hr : VRow x base u xs) (hx : x.heap[b]? = w.heap[b]?) : some b ≠ u.ownBlock := by
  obtain ⟨cs, h1, _⟩ := h
  exact own_ne hr (hx.trans h1) (by decide)
end
/-- The table: its rows and its numbers. -/
structure TabS (x : World) (base b m n : Nat) (us : Nat → Value) (R : Nat → List Pv) (f : Pv → Int) (S : Pv → Bool) : Prop where
  box : TBox x b us m
  rows : ∀ t, t < 13 → VRow x base (us t) (R t)
  apart : ∀ s t, s < 13 → t < 13 → s ≠ t → ∀ k, (us s).ownBlock = some k → (us t).ownBlock ≠ some k
  num : VTab x m n f S
  hb : base ≤ b
  hm : base ≤ m
section
variable {x y : World} {base b m n : Nat} {us : Nat → Value} {R : Nat → List Pv} {f : Pv → Int} {S : Pv → Bool}
theorem TabS.grow (h : TabS x base b m n us R f S) (k : Below x.heap.size x y) : TabS y base b m n us R f S :=
  ⟨h.box.keep k h.box.lt, fun t ht => (h.rows t ht).grow k, h.apart, h.num.grow k, h.hb, h.hm⟩
theorem TabS.mne (h : TabS x base b m n us R f S) : m ≠ b := by
  obtain ⟨cs, h1, _⟩ := h.box
  exact h.num.ne h1
/-- The map turns: one value more. -/
theorem TabS.nums (h : TabS x base b m n us R f S) {f' : Pv → Int} {S' : Pv → Bool} {n' : Nat} (hn : VTab y m n' f' S') (hg : x.grownBy y (some m)) : TabS y base b m n' us R f' S' := by
  refine ⟨h.box.kept hg (fun e => h.mne (Option.some.inj e).symm), fun t ht => (h.rows t ht).kept hg (fun k hk e => ?_), h.apart, hn, h.hb, h.hm⟩
  cases e
  obtain ⟨D, ⟨es, clock, hb, _⟩, _⟩ := h.num
  rcases (h.rows t ht).2 with ⟨e1, _⟩ | ⟨g, cap, cur, e1, _, hg2, _⟩
  · rw [e1] at hk; cases hk
  · rw [e1] at hk
    cases hk
    rw [hb] at hg2
    cases hg2
/-- A row turns, and is stored anew. -/
theorem TabS.put (h : TabS x base b m n us R f S) {t : Nat} (ht : t < 13) {v : Value} {xs : List Pv} (hr : VRow y base v (R t ++ xs)) (hp : Hop x y (us t).ownBlock v.ownBlock) :
    TabS (y.setCell ⟨b, t, none⟩ v) base b m n (fun k => if k = t then v else us k) (fun k => if k = t then R t ++ xs else R k) f S := by
  have hbr : some b ≠ (us t).ownBlock := h.box.apart (h.rows t ht) rfl
  have hby : TBox y b us m := h.box.kept hp.1 hbr
  have hbv : some b ≠ v.ownBlock := hby.apart hr rfl
  have hlt : ∀ s, s < 13 → ∀ k, (us s).ownBlock = some k → k < x.heap.size := fun s hs k hk => (World.ownsRow.lt (h.rows s hs) k hk).2
  have hmr : some m ≠ (us t).ownBlock := fun e => by
    obtain ⟨D, ⟨es, clock, hb, _⟩, _⟩ := h.num
    rcases (h.rows t ht).2 with ⟨e1, _⟩ | ⟨g, cap, cur, e1, _, hg2, _⟩
    · rw [e1] at e; cases e
    · rw [e1] at e
      cases e
      rw [hb] at hg2
      cases hg2
  refine ⟨hby.set ht v, fun s hs => ?_, fun s s' hs hs' hne k hk e => ?_, ?_, h.hb, h.hm⟩
  · by_cases e : s = t
    · subst e
      rw [if_pos rfl, if_pos rfl]
      exact hr.kept (hby.turned s v) (fun k hk e => by cases e; exact hbv hk.symm)
    · rw [if_neg e, if_neg e]
      have h1 : VRow y base (us s) (R s) := (h.rows s hs).kept hp.1 (fun k hk e2 => h.apart s t hs ht e k hk e2)
      exact h1.kept (hby.turned t v) (fun k hk e2 => by
        cases e2
        exact h.box.apart (h.rows s hs) rfl hk.symm)
  · have new : ∀ s, s < 13 → s ≠ t → ∀ k, v.ownBlock = some k → (us s).ownBlock ≠ some k := fun s hs hst k hk e => by
      rcases hp.2 with h2 | ⟨g, hg, h2⟩
      · exact h.apart s t hs ht hst k e (h2 ▸ hk)
      · rw [h2] at hk
        cases hk
        have := hlt s hs _ e
        omega
    by_cases e1 : s = t
    · by_cases e2 : s' = t
      · exact hne (e1.trans e2.symm)
      · rw [if_pos e1] at hk
        rw [if_neg e2] at e
        exact new s' hs' e2 k hk e
    · by_cases e2 : s' = t
      · rw [if_neg e1] at hk
        rw [if_pos e2] at e
        exact new s hs e1 k e hk
      · rw [if_neg e1] at hk
        rw [if_neg e2] at e
        exact h.apart s s' hs hs' hne k hk e
  · exact (h.num.kept hp.1 hmr).kept (hby.turned t v) (fun e => h.mne (Option.some.inj e))
end
end Go.Proofs.YtkdamaomhppkgaaGreat
