/- The walk of layer 14: Print. -/
import Derived.Test.YtbjhnfemlpbchaaWalksO
import Derived.Test.YtbjhnfemlpbchaaPlainF
import Derived.Test.YtbjhnfemlpbchaaConcat
namespace Go.Proofs.Ytbjhnfemlpbchaa
open Go.RowKit Go.Maps

theorem SSet.but {w w' : World} {b : Nat} {ks : List (List UInt8)} {t u : TypeId} (h : SSet w b ks) (k : KeepsBut t u w w') : SSet w' b ks := by
  obtain ⟨D, ⟨es, clock, h1, h2⟩, h3⟩ := h
  exact ⟨D, ⟨es, clock, k.2 b _ h1 (fun c fr => ⟨fun e => (by cases e), fun e => (by cases e)⟩), h2⟩, h3⟩
theorem row_but {w w' : World} {base size n : Nat} {e t u : TypeId} {v : Value} {vals : List Value} (h : w.ownsRow base e size v n vals) (k : KeepsBut t u w w') (ht : e ≠ t) (hu : e ≠ u) : w'.ownsRow base e size v n vals := by
  obtain ⟨h1, h2⟩ := h
  refine ⟨h1, ?_⟩
  rcases h2 with h2 | ⟨g, cap, cur, h2, h4, h5, h6⟩
  · exact .inl h2
  · exact .inr ⟨g, cap, cur, h2, h4, k.2 g _ h5 (fun c fr => ⟨fun e => ht (by injection e), fun e => hu (by injection e)⟩), h6⟩
theorem Sec.but {w w' : World} {base s : Nat} {main : Bool} {ps : List Pr} (h : Sec w base s main ps) (k : KeepsBut 65 5 w w') : Sec w' base s main ps := by
  obtain ⟨m, v, h1, h2, h3, h4, h5⟩ := h
  exact ⟨m, v, k.2 s _ h1 (fun c fr => ⟨fun e => (by injection e with _ e; cases e), fun e => (by injection e with _ e; cases e)⟩), h2.but k, row_but h3 k (by decide) (by decide), h4, h5⟩
theorem TRow.but {w w' : World} {base : Nat} {v : Value} {xs : List (List UInt8)} (h : TRow w base v xs) (k : KeepsBut 65 5 w w') : TRow w' base v xs := row_but h k (by decide) (by decide)

/-- Cells of other types than a section's are as they were. -/
def KeepsC (w w' : World) : Prop := ∀ (j : Nat) (c : Array Value) (ty : TypeId) (fr : Nat × Nat), w.heap[j]? = some (Obj.cells c ty fr) → ty ≠ 58 → ty ≠ 44 → w'.heap[j]? = some (Obj.cells c ty fr)
theorem take_x (base s : Nat) (main : Bool) (ps : List Pr) (p : Pr) (w X : World) (hS : Sec w base s main ps) (hX : Below w.heap.size w X) (hbs : base ≤ w.heap.size) (hn : ps.length ≤ 1000000) (h1 : p.1.length ≤ 1000000000) (h2 : p.2.length ≤ 1000000000) :
    Calls Try.prog 25 #[.pointer (some ⟨s, 0, none⟩), pv p] X fun e w' => e = .returned (.int .i64 (Ma.take main ps p : Nat)) ∧ Sec w' base s main (Ma.after main ps p) ∧ Below base X w' ∧ KeepsC X w' ∧ ∀ j, w.heap.size ≤ j → j < X.heap.size → w'.heap[j]? = X.heap[j]? := by
  obtain ⟨m, v, hS⟩ := hS
  have hS2 := hS.keep hX
  have hsl := (Array.getElem?_eq_some_iff.1 hS.1).1
  have hml := hS.2.1.lt
  have hvl := fun g (e : v.ownBlock = some g) => (World.ownsRow.lt hS.2.2.1 g e).2
  have hsz := hX.size
  refine (take_keeps base s main ps p m v X hS2 (by omega) hn h1 h2).mono ?_
  rintro e w' ⟨rfl, h3, h4, h5⟩
  refine ⟨rfl, h3, h4, fun j c ty fr hj n1 n2 => (h5 j (Array.getElem?_eq_some_iff.1 hj).1 (fun e => ?_) (fun e => ?_) (fun e => ?_)).trans hj, fun j a b => h5 j b (by omega) (by omega) (fun e => by have := hvl j e.symm; omega)⟩
  · subst e
    rw [hS2.1] at hj
    injection hj with hj
    injection hj with _ hj
    exact n1 hj.symm
  · subst e
    exact hS2.2.1.ne hj rfl
  · obtain ⟨cur, hc⟩ := own_cells hS2.2.2.1 e.symm
    rw [hc] at hj
    injection hj with hj
    injection hj with _ hj
    exact n2 hj.symm

/-- Between two writes: the text so far, the row of all sections. -/
def PSt (w : World) (va : Value) (all : List (List Pr)) (T : List UInt8) (X : World) : Prop :=
  (∃ p v, Bld X (w.heap.size + 1) w.heap.size p v T) ∧ PAll w X va all ∧ Below w.heap.size w X
theorem PSt.grow {w X Y : World} {va : Value} {all : List (List Pr)} {T : List UInt8} (h : PSt w va all T X) (k : Below X.heap.size X Y) : PSt w va all T Y := by
  obtain ⟨⟨p, v, h1⟩, h2, h3⟩ := h
  exact ⟨⟨p, v, h1.keep (KeepsOf.below k) k (Array.getElem?_eq_some_iff.1 h1.1).1⟩, h2.grow k, Below.after' h3 k (Nat.le_refl _)⟩
theorem PSt.types {w X Y : World} {va : Value} {all : List (List Pr)} {T : List UInt8} {B : Nat} (h : PSt w va all T X) (k : KeepsC X Y) (hB : Below B X Y) (hw : w.heap.size + 1 < B) : PSt w va all T Y := by
  obtain ⟨⟨p, v, h1⟩, h2, h3⟩ := h
  refine ⟨⟨p, v, h1.keep ⟨hB.size, fun j c fr hj => k j c _ fr hj (by decide) (by decide)⟩ hB (by omega)⟩, h2.kept fun g cur _ hg => k g cur _ _ hg (by decide) (by decide), h3.trans (hB.mono (by omega))⟩
theorem PSt.write {w X : World} {va : Value} {all : List (List Pr)} {T : List UInt8} (h : PSt w va all T X) (m : List UInt8) (hm : T.length + m.length ≤ 100000000000) :
    Calls Try.prog 30 #[.pointer (some ⟨w.heap.size + 1, 0, none⟩), .string (bs m)] X fun e w' => e = .returned (.tuple #[.int .i64 m.length, .nilIface]) ∧ PSt w va all (T ++ m) w' ∧ KeepsBut 65 5 X w' := by
  obtain ⟨⟨p, v, h1⟩, h2, h3⟩ := h
  refine (writeString_any _ _ p v T m X h1 h3.size hm).mono ?_
  rintro e w' ⟨v', rfl, h4, h5, h6⟩
  have hk := h6.but h1
  exact ⟨rfl, ⟨⟨_, _, h4⟩, h2.but hk (by decide) (by decide), h3.trans (h6.below (by omega) h3.size (fun k e => (World.ownsRow.lt h1.2.2 k e).1))⟩, hk⟩
/-- The row of a text's bytes. -/
theorem bytes_of (l : List UInt8) (w : World) : ∃ (w2 : World) (cap : Nat), (convert 9 22 (.string (bs l))).run Try.prog w = .ok (.slice (some ⟨w.heap.size, 0, none⟩) l.length cap) w2 ∧ Below w.heap.size w w2 ∧ BAt w2 (some ⟨w.heap.size, 0, none⟩) cap l := by
  have h := run_bytes_of_string w 9 22 5 (bs l) Try.underlying9 Try.underlying22 Try.underlying5
  rw [bs_size] at h
  refine ⟨_, _, h, ((Below.refl w.heap.size w).drew).alloc (Nat.le_refl _) _, grownCap_ge _ _ _ _, fun _ => ⟨w.heap.size, 0, rfl, by rw [World.size_alloc]; exact Nat.lt_succ_self _, fun j c hc => ?_⟩⟩
  obtain ⟨hj, hc⟩ := List.getElem?_eq_some_iff.1 hc
  have hj' : j < (bs l).data.size := by show j < l.toArray.size; simpa using hj
  have e := bytesRow_at (bs l) (grownCap w l.length 0 5) j hj'
  have this : (bs l).data[j]'hj' = c := by rw [← hc]; exact List.getElem_toArray ..
  rw [this] at e
  rw [Nat.zero_add]
  refine (cell_of_row _ w.heap.size j _ 5 _ (heap_alloc_new w.drew _)).trans e

theorem heap4 (w : World) (o0 o1 o2 o3 : Obj) : ((((w.alloc o0).alloc o1).alloc o2).alloc o3).heap[w.heap.size]? = some o0 ∧ ((((w.alloc o0).alloc o1).alloc o2).alloc o3).heap[w.heap.size + 1]? = some o1 ∧
    ((((w.alloc o0).alloc o1).alloc o2).alloc o3).heap[w.heap.size + 2]? = some o2 ∧ ((((w.alloc o0).alloc o1).alloc o2).alloc o3).heap[w.heap.size + 3]? = some o3 := by
  obtain ⟨h0, h1, h2, h3, _⟩ := heap5 w o0 o1 o2 o3 o3
  have s4 : ((((w.alloc o0).alloc o1).alloc o2).alloc o3).heap.size = w.heap.size + 4 := by simp
  rw [Below.heap_alloc _ _ _ (by omega)] at h0 h1 h2 h3
  exact ⟨h0, h1, h2, h3⟩

set_option maxHeartbeats 8000000 in
set_option maxRecDepth 100000 in
theorem print_any (A : Option Addr) (c : Nat) (main : List Pr) (B : Option Addr) (d : Nat) (parts : List (List Pr)) (w : World) (hA : Prs w A c main) (hB : PNest w B d parts) (hn : parts.length ≤ 100000)
    (hs : ∀ s ∈ main :: parts, s.length ≤ 100000 ∧ ∀ p ∈ s, p.1.length ≤ 400000 ∧ p.2.length ≤ 400000) (hT : (Ma.allText (main :: parts)).length ≤ 100000000000) :
    Calls Try.prog 12 #[.agg #[.slice A main.length c, .slice B parts.length d]] w fun e w' => ∃ A' c', e = .returned (.tuple #[.slice A' (Ma.print (main :: parts)).2.length c', .int .i64 ((Ma.print (main :: parts)).1 : Nat)]) ∧ BAt w' A' c' (Ma.print (main :: parts)).2 ∧ Below w.heap.size w w' := by
  have HA := Lib.hid hA
  have HB := Lib.hid hB
  have HS := Lib.hid hs
  have HT := Lib.hid hT
  obtain ⟨all, hall⟩ : ∃ all, all = main :: parts := ⟨_, rfl⟩
  have hal : all.length ≤ 100001 := by rw [hall]; simp; omega
  rw [← hall]
  rw [← hall] at HS HT
  have Hall := Lib.hid hall
  clear hA hB hs hT hall
  go_enter Try.func12, Try.ntmps12
  go_wp2_with fail
  have q := heap4 w (.cells #[.slice A main.length c, .slice B parts.length d] 27) (.cells #[.pointer none, .slice none 0 0] 65) (.cells #[.slice A main.length c] 24) (.cells #[.slice (some ⟨w.heap.size + 1 + 1, 0, none⟩) 1 1, .slice B parts.length d] 25)
  have k0 := ((((Below.refl w.heap.size w).alloc (Nat.le_refl _) (.cells #[.slice A main.length c, .slice B parts.length d] 27)).alloc (by simp) (.cells #[.pointer none, .slice none 0 0] 65)).alloc (by simp; omega) (.cells #[.slice A main.length c] 24)).alloc (by simp; omega) (.cells #[.slice (some ⟨w.heap.size + 1 + 1, 0, none⟩) 1 1, .slice B parts.length d] 25)
  generalize (((w.alloc (.cells #[.slice A main.length c, .slice B parts.length d] 27)).alloc (.cells #[.pointer none, .slice none 0 0] 65)).alloc (.cells #[.slice A main.length c] 24)).alloc (.cells #[.slice (some ⟨w.heap.size + 1 + 1, 0, none⟩) 1 1, .slice B parts.length d] 25) = W at q k0 ⊢
  obtain ⟨_, q1, q2, q3⟩ := q
  have hW1 := (Array.getElem?_eq_some_iff.1 q1).1
  refine (concat_any (w.heap.size + 1 + 1 + 1) (w.heap.size + 1 + 1) A c main B d parts w W q3 q2 (by omega) (by omega) HA.out HB.out k0 (by omega)).mono ?_
  rintro e w1 ⟨va, rfl, hP, hb1⟩
  obtain ⟨ga, ca, rfl, hga, hca⟩ := hP.reads (by simp)
  have hS1 := Lib.hid (show PSt w (.slice (some ⟨ga, 0, none⟩) (main :: parts).length ca) (main :: parts) [] w1 from ⟨⟨_, _, (hb1.block _ hW1).trans q1, .inl rfl, BRow.nil _ _ _⟩, hP, Below.after' k0 hb1 (Nat.le_refl _)⟩)
  rw [← Hall.out] at hS1 ⊢
  clear q1 q2 q3 k0 hb1 hP hW1 hn hca
  go_wp2_with fail
  go_loopw [21] (fun u wr => ∃ i : Nat, i ≤ all.length ∧ u = .int .i64 i ∧ PSt w (.slice (some ⟨ga, 0, none⟩) all.length ca) all (Ma.allText (all.take i)) wr ∧ Ma.manErr true all = Ma.manErr (i == 0) (all.drop i)) (fun u _ => all.length - (intOf u).toNat)
  case atStart => exact ⟨0, Nat.zero_le _, rfl, hS1.out, rfl⟩
  case round =>
    obtain ⟨i, hil, rfl, hPS, hE⟩ := hrel
    have HPS := Lib.hid hPS
    by_cases hi : i < all.length
    · obtain ⟨x, Bx, dx, hx, hgz, hcx, hPx⟩ := hPS.2.1.at_ hi
      obtain ⟨hxl, hxp⟩ := HS.out x (List.mem_of_getElem? hx)
      have HPX := Lib.hid hPx
      have HXP := Lib.hid hxp
      have hma := Lib.hid (hE.trans (Ma.manErr_at hx))
      have hsn := Lib.hid (show Ma.allText (all.take (i + 1)) = Ma.allText (all.take i) ++ Ma.sectText x from Ma.flat_snoc Ma.sectText hx)
      have hbd := Lib.hid (show (Ma.allText (all.take i)).length + (Ma.sectText x).length ≤ 100000000000 from Nat.le_trans (Ma.flat_at Ma.sectText hx) HT.out)
      have hmain : ((i : Int) == 0) = (i == 0) := by rw [Bool.eq_iff_iff]; simp
      clear hPS hE hPx hxp hx
      generalize (i == 0) = mn at hma hmain
      by_cases hx0 : x = []
      · have u1 : ((x.length : Int) == 0) = true := by rw [hx0]; rfl
        have hfin := Lib.hid (show Ma.print all = (2, []) by
          have : Ma.manErr true all = 2 := by rw [hma.out, if_pos hx0]
          unfold Ma.print; rw [this]; rfl)
        clear hx0
        go_wp2
        go_ret2
        exact ⟨none, 0, by rw [hfin.out]; rfl, by rw [hfin.out]; exact ⟨Nat.zero_le _, fun h => by simp at h⟩, HPS.out.2.2⟩
      · have u1 : ((x.length : Int) == 0) = false := by
          rw [beq_eq_false_iff_ne]; intro h; exact hx0 (List.eq_nil_of_length_eq_zero (by omega))
        have hma2 := Lib.hid (hma.out.trans (if_neg hx0))
        clear hx0
        go_wp2_with fail
        refine (open_any mn wr).mono ?_
        rintro e w2 ⟨s, rfl, hS0, hb2⟩
        have hS2 := Lib.hid (HPS.out.grow hb2)
        have hSe := Lib.hid hS0
        have hBw : w.heap.size + 1 < wr.heap.size := by
          obtain ⟨⟨p, v, h1, _⟩, _⟩ := HPS.out
          exact (Array.getElem?_eq_some_iff.1 h1).1
        clear hS0 hb2 hcx
        go_wp2_with fail
        go_loopw [34] (fun u wk => ∃ k : Nat, k ≤ x.length ∧ u = .int .i64 k ∧ PSt w (.slice (some ⟨ga, 0, none⟩) all.length ca) all (Ma.allText (all.take i) ++ Ma.pairsText (x.take k)) wk ∧ Sec wk wr.heap.size s mn (x.take k) ∧ Ma.secErr mn [] x = Ma.secErr mn (x.take k) (x.drop k)) (fun u _ => x.length - (intOf u).toNat)
        case atStart => exact ⟨0, Nat.zero_le _, rfl, by rw [show Ma.allText (all.take i) ++ Ma.pairsText (x.take 0) = Ma.allText (all.take i) from List.append_nil _]; exact hS2.out, hSe.out, rfl⟩
        case round =>
          rename World => wk
          obtain ⟨k, hkl, rfl, hPS2, hSec, hE2⟩ := hrel
          have HPS2 := Lib.hid hPS2
          have HSec := Lib.hid hSec
          have hwrk : wr.heap.size ≤ wk.heap.size := by
            have := hSec.lt
            obtain ⟨_, _, _, _, _, h, _⟩ := hSec
            omega
          by_cases hk : k < x.length
          · obtain ⟨g, o, p, rfl, hg, hp, c1, c2⟩ := (HPX.out.grow hPS2.2.2).at_ hk
            obtain ⟨hp1, hp2⟩ := HXP.out p (List.mem_of_getElem? hp)
            have hse := Lib.hid (hE2.trans (Ma.secErr_at hp))
            have hsn2 := Lib.hid (show Ma.pairsText (x.take (k + 1)) = Ma.pairsText (x.take k) ++ Ma.pairText p from Ma.flat_snoc Ma.pairText hp)
            have hbd2 := Lib.hid (show (Ma.pairsText (x.take k)).length + (Ma.pairText p).length + 2 ≤ (Ma.sectText x).length by
              have := Ma.flat_at Ma.pairText hp
              unfold Ma.sectText Ma.pairsText
              rw [List.length_append]
              simp only [List.length_cons, List.length_nil]
              omega)
            have htk := Lib.hid (List.take_succ_eq_append_getElem hk)
            have hpe : x[k] = p := (List.getElem?_eq_some_iff.1 hp).2
            rw [hpe] at htk
            have hkt : (x.take k).length ≤ 1000000 := by rw [List.length_take]; omega
            have hz1 := bs_size p.1
            have hz2 := bs_size p.2
            clear hPS2 hSec hE2 hp hpe
            go_wp2_with fail
            have q2 : (wk.alloc (.cells #[.string (bs p.1), .string (bs p.2)] 44)).heap[wk.heap.size]? = some (.cells #[.string (bs p.1), .string (bs p.2)] 44 (0, 0)) := heap_alloc_new _ _
            have k2 := (Below.refl wk.heap.size wk).alloc (Nat.le_refl _) (.cells #[.string (bs p.1), .string (bs p.2)] 44)
            generalize wk.alloc (.cells #[.string (bs p.1), .string (bs p.2)] 44) = W2 at q2 k2 ⊢
            refine (take_x wr.heap.size s mn (x.take k) p wk W2 HSec.out k2 hwrk hkt (by omega) (by omega)).mono ?_
            rintro e w3 ⟨rfl, hS3, hB3, hC3, hV3⟩
            have q3 := (hV3 wk.heap.size (Nat.le_refl _) (Array.getElem?_eq_some_iff.1 q2).1).trans q2
            have HP3 := Lib.hid ((HPS2.out.grow k2).types hC3 hB3 hBw)
            have HS3 := Lib.hid hS3
            have d1 : w3.cell? ⟨wk.heap.size, 0, none⟩ = some (.string (bs p.1)) := (blk_facts q3).1 0
            have d2 : w3.cell? ⟨wk.heap.size, 1, none⟩ = some (.string (bs p.2)) := (blk_facts q3).1 1
            clear q2 k2 hS3 hB3 hC3 hV3 q3 c1 c2
            by_cases ht : Ma.take mn (x.take k) p = 0
            · rw [ht]
              have hlen : (Ma.lineOf p).length ≤ 1000000 := by unfold Ma.lineOf; simp; omega
              have hcat := Lib.hid (show bs p.1 ++ ⟨#[58, 32]⟩ ++ bs p.2 = bs (Ma.lineOf p) by
                rw [show (⟨#[58, 32]⟩ : ByteArray) = bs [58, 32] from rfl, bs_append, bs_append]; rfl)
              have hS4 := Lib.hid (show Sec w3 wr.heap.size s mn (x.take (k + 1)) by rw [htk.out]; have := HS3.out; rwa [after_ok ht] at this)
              have hse2 := Lib.hid (hse.out.trans (if_neg (by omega)))
              clear ht
              go_wp2_with fail
              rw [hcat.out]
              refine (fold_any (Ma.lineOf p) w3 hlen).mono ?_
              rintro e w4 ⟨vf, rfl, hTR, hb4⟩
              have hS5 := Lib.hid (hS4.out.keep hb4)
              have hP5 := Lib.hid (HP3.out.grow hb4)
              have hbd3 : ∀ (j : Nat) l, (Ma.fold (Ma.lineOf p))[j]? = some l → (Ma.foldText ((Ma.fold (Ma.lineOf p)).take j)).length + (l.length + 2) ≤ (Ma.pairText p).length := fun j l h => by
                have := Ma.flat_at (fun l => l ++ [13, 10]) h
                rw [List.length_append] at this
                exact this
              have hpt : Ma.pairText p = Ma.foldText (Ma.fold (Ma.lineOf p)) := rfl
              generalize Ma.fold (Ma.lineOf p) = ls at hTR hbd3 hpt
              obtain ⟨Af, cf, rfl, hTx⟩ := hTR.reads
              have hlc : ls.length ≤ 100000000000 := by
                have h1 := Ma.foldText_ge ls
                rw [← hpt] at h1
                have h2 := hbd2.out
                have h3 := hbd.out
                omega
              have HTR := Lib.hid hTR
              have hbd4 := Lib.hid hbd3
              clear hTR hb4 hTx d1 d2 hbd3
              go_wp2_with fail
              go_loopw [52] (fun u wj => ∃ j : Nat, j ≤ ls.length ∧ u = .int .i64 j ∧ PSt w (.slice (some ⟨ga, 0, none⟩) all.length ca) all (Ma.allText (all.take i) ++ Ma.pairsText (x.take k) ++ Ma.foldText (ls.take j)) wj ∧ KeepsBut 65 5 w4 wj) (fun u _ => ls.length - (intOf u).toNat)
              case atStart => exact ⟨0, Nat.zero_le _, rfl, by rw [show Ma.allText (all.take i) ++ Ma.pairsText (x.take k) ++ Ma.foldText (ls.take 0) = Ma.allText (all.take i) ++ Ma.pairsText (x.take k) from List.append_nil _]; exact hP5.out, KeepsBut.refl _ _ _⟩
              case round =>
                rename World => wj
                obtain ⟨j, hjl, rfl, hPS3, hK3⟩ := hrel
                have HPS3 := Lib.hid hPS3
                have HK3 := Lib.hid hK3
                by_cases hj : j < ls.length
                · obtain ⟨Af2, cf2, e2, hTx⟩ := (HTR.out.but hK3).reads
                  injection e2 with e2 _ e3
                  subst e2 e3
                  obtain ⟨gf, of, l, rfl, hgf, hl, c1⟩ := hTx.at_ hj
                  have hb5 := hbd4.out j l hl
                  have hb6 := hbd2.out
                  have hb7 := hbd.out
                  have hsn3 := Lib.hid (show Ma.foldText (ls.take (j + 1)) = Ma.foldText (ls.take j) ++ (l ++ [13, 10]) from Ma.flat_snoc (fun l => l ++ [13, 10]) hl)
                  clear hPS3 hK3 hTx hl
                  go_wp2_with fail
                  refine (HPS3.out.write l (by rw [List.length_append, List.length_append]; omega)).mono ?_
                  rintro e w5 ⟨rfl, hP6, hK6⟩
                  have HP6 := Lib.hid hP6
                  have HK6 := Lib.hid (HK3.out.trans hK6)
                  clear hP6 hK6 c1
                  go_wp2_with fail
                  refine (HP6.out.write [13, 10] (by rw [List.length_append, List.length_append, List.length_append]; simp only [List.length_cons, List.length_nil]; omega)).mono ?_
                  rintro e w6 ⟨rfl, hP7, hK7⟩
                  have HP7 := Lib.hid hP7
                  have HK7 := Lib.hid (HK6.out.trans hK7)
                  clear hP7 hK7
                  go_wp2
                  go_roundw
                  case rel => exact ⟨j + 1, by omega, by go_num, by rw [hsn3.out, ← List.append_assoc, ← List.append_assoc]; exact HP7.out, HK7.out⟩
                  case measure => simp [intOf]; omega
                · rw [show ls.take j = ls from List.take_of_length_le (by omega), ← hpt, List.append_assoc, ← hsn2.out] at hPS3
                  have HP8 := Lib.hid hPS3
                  clear hPS3
                  have hS9 := Lib.hid (hS5.out.but hK3)
                  go_wp2
                  go_roundw
                  case rel => exact ⟨k + 1, by omega, by go_num, HP8.out, hS9.out, hse2.out⟩
                  case measure => simp [intOf]; omega
            · have hfin := Lib.hid (show Ma.print all = (Ma.take mn (x.take k) p, []) by
                have h1 : Ma.secErr mn [] x = Ma.take mn (x.take k) p := by rw [hse.out, if_pos ht]
                have h2 : Ma.manErr true all = Ma.take mn (x.take k) p := by rw [hma2.out, h1, if_pos ht]
                unfold Ma.print; rw [h2, if_pos ht])
              generalize Ma.take mn (x.take k) p = te at ht hfin ⊢
              have qe : ((te : Int) != 0) = true := by simp [ht]
              clear ht
              go_wp2
              go_ret2
              exact ⟨none, 0, by rw [hfin.out]; rfl, by rw [hfin.out]; exact ⟨Nat.zero_le _, fun h => by simp at h⟩, HP3.out.2.2⟩
          · rw [show x.take k = x from List.take_of_length_le (by omega), show x.drop k = [] from List.drop_of_length_le (by omega)] at hE2
            rw [show x.take k = x from List.take_of_length_le (by omega)] at hPS2
            have HP8 := Lib.hid hPS2
            have hE3 := Lib.hid (show Ma.manErr true all = Ma.manErr false (all.drop (i + 1)) by rw [hma2.out, hE2]; exact if_neg (by simp [Ma.secErr]))
            have hsl := Lib.hid (show (Ma.sectText x).length = (Ma.pairsText x).length + 2 by unfold Ma.sectText; rw [List.length_append]; rfl)
            clear hPS2 hSec hE2
            go_wp2_with fail
            refine (HP8.out.write [13, 10] (by rw [List.length_append]; have := hsl.out; have := hbd.out; simp only [List.length_cons, List.length_nil]; omega)).mono ?_
            rintro e w6 ⟨rfl, hP7, hK7⟩
            have HP7 := Lib.hid hP7
            clear hP7 hK7
            go_wp2
            go_roundw
            case rel => exact ⟨i + 1, by omega, by go_num, by rw [hsn.out]; unfold Ma.sectText; rw [← List.append_assoc]; exact HP7.out, hE3.out⟩
            case measure => simp [intOf]; omega
    · rw [List.take_of_length_le (by omega)] at hPS
      have hfin := Lib.hid (show Ma.print all = (0, Ma.allText all) by
        have h1 : Ma.manErr true all = 0 := by rw [hE, List.drop_of_length_le (by omega)]; rfl
        unfold Ma.print; rw [h1, if_neg (by simp)])
      obtain ⟨⟨p, v, h1⟩, h2, h3⟩ := hPS
      have HI := Lib.hid (isBuilder h1 (by omega))
      have H3 := Lib.hid h3
      clear h1 h2 h3 hE
      go_wp2_with fail
      refine (Try.Builder_String_any _ _ _ wr HI.out H3.out.size).mono ?_
      rintro e w3 ⟨rfl, hb3⟩
      obtain ⟨w4, cap, hcv, hb4, hAt⟩ := bytes_of (Ma.allText all) w3
      have hcv2 : (convert 9 22 (.string ⟨(Ma.allText all).toArray⟩)).run Try.prog w3 = .ok (.slice (some ⟨w3.heap.size, 0, none⟩) (Ma.allText all).length cap) w4 := hcv
      have HB3 := Lib.hid (H3.out.trans hb3)
      have HB4 := Lib.hid hb4
      have HAt := Lib.hid hAt
      clear hb3 hb4 hAt hcv
      go_wp2
      go_ret2
      exact ⟨some ⟨w3.heap.size, 0, none⟩, cap, by rw [hfin.out]; rfl, by rw [hfin.out]; exact HAt.out, Below.after' HB3.out HB4.out (Nat.le_refl _)⟩
end Go.Proofs.Ytbjhnfemlpbchaa
