/- The walk of layer 14: what is read of a text. -/
import Derived.Test.YtbjhnfemlpbchaaWalksN
import Derived.Test.YtbjhnfemlpbchaaNest
import Derived.Test.YtbjhnfemlpbchaaPlainE
import Derived.Laws.ResultCell
namespace Go.Proofs.Ytbjhnfemlpbchaa
open Go.RowKit Go.Maps

/-- The variable by which the library's search is chosen holds a number. -/
def MaxP (w : World) : Prop := ∃ m, w.cell? ⟨0, 0, none⟩ = some (.int .i64 m)
theorem maxP_of {w : World} (h : w.ShapedOpen Try.prog) : MaxP w := Try.laysM145.s1_3 w h
theorem max_below {w w' : World} (h : MaxP w) (k : Below w.heap.size w w') : MaxP w' := by
  obtain ⟨m, hm⟩ := h
  have hb : 0 < w.heap.size := by
    unfold World.cell? at hm
    cases hq : w.heap[0]? with
    | none => simp [hq] at hm
    | some o => exact (Array.getElem?_eq_some_iff.1 hq).1
  exact ⟨m, (k.cell (p := ⟨0, 0, none⟩) hb).trans hm⟩

theorem close_small {b : List UInt8} : (Ma.close (Ma.runl (Ma.cuts b))).length ≤ b.length + 1 ∧ ∀ a ∈ Ma.close (Ma.runl (Ma.cuts b)), a.length ≤ b.length ∧ ∀ y ∈ a, y.length ≤ b.length := by
  obtain ⟨h1, h2, h3, h4⟩ := Ma.small_run (Ma.cuts b)
  rw [Ma.cuts_flat] at h3 h4
  have hc := Ma.cuts_len b
  unfold Ma.close
  split
  · exact ⟨by simp, by simp⟩
  · split
    · exact ⟨by omega, fun a ha => ⟨by have := (h4 a ha).1; omega, (h4 a ha).2⟩⟩
    · refine ⟨by simp; omega, fun a ha => ?_⟩
      rcases List.mem_append.1 ha with ha | ha
      · exact ⟨by have := (h4 a ha).1; omega, (h4 a ha).2⟩
      · rw [List.mem_singleton] at ha
        rw [ha]
        exact ⟨by omega, h3⟩
theorem cut_run (l : List UInt8) (w : World) (hm : MaxP w) (hl : l.length ≤ 1000000000) : Calls Try.prog 24 #[.string (bs l), .string ⟨#[58, 32]⟩] w fun e w' =>
    e = .returned (.tuple #[.string (bs (Lib.cut l [58, 32]).1), .string (bs (Lib.cut l [58, 32]).2.1), .bool (Lib.cut l [58, 32]).2.2]) ∧ Below w.heap.size w w' := by
  obtain ⟨m, hm⟩ := hm
  refine (Try.strings_Cut (bs l) ⟨#[58, 32]⟩ m w (by rw [bs_size]; omega) hm).mono ?_
  rintro e w' ⟨rfl, n, rfl⟩
  exact ⟨rfl, below_drewN (Below.refl _ _) n⟩

theorem load_man {w : World} {p : Nat} {m q : Value} (h0 : w.cell? ⟨p, 0, none⟩ = some m) (h1 : w.cell? ⟨p, 1, none⟩ = some q) : (loadVar 27 ⟨p, 0, none⟩).run Try.prog w = .ok (.agg #[m, q]) w := by
  go_simp
theorem results_man {tmps : Array Value} {w : World} {p : Nat} {m q : Value} {e : Value} (h2 : tmps.getD 2 undef = .pointer (some ⟨p, 0, none⟩)) (h3 : tmps.getD 3 undef = e) (h0 : w.cell? ⟨p, 0, none⟩ = some m) (h1 : w.cell? ⟨p, 1, none⟩ = some q) :
    (results Try.f8 tmps).run Try.prog w = .ok (.tuple #[.agg #[m, q], e]) w := by
  rw [results_cell_tmp (p := 2) (u := 3) (ty := 27) rfl, h2, h3]
  simp [asAddr, load_man h0 h1, Result.andThen]

theorem man_put {X : World} {p : Nat} {m0 q0 : Value} (h : X.heap[p]? = some (.cells #[m0, q0] 27 (0, 0))) (m q : Value) :
    ((X.setCell ⟨p, 0, none⟩ m).setCell ⟨p, 1, none⟩ q).cell? ⟨p, 0, none⟩ = some m ∧ ((X.setCell ⟨p, 0, none⟩ m).setCell ⟨p, 1, none⟩ q).cell? ⟨p, 1, none⟩ = some q := by
  have h1 : (X.setCell ⟨p, 0, none⟩ m).heap[p]? = some (.cells #[m, q0] 27 (0, 0)) := by
    simp only [World.setCell, Array.getElem?_modify, if_true, h, Option.map_some]
    rfl
  have h2 : ((X.setCell ⟨p, 0, none⟩ m).setCell ⟨p, 1, none⟩ q).heap[p]? = some (.cells #[m, q] 27 (0, 0)) := by
    simp only [World.setCell, Array.getElem?_modify, if_true] at h1 ⊢
    rw [h1]
    rfl
  exact ⟨(blk_facts h2).1 0, (blk_facts h2).1 1⟩
theorem below_put {w X : World} (h : Below w.heap.size w X) (m q : Value) : Below w.heap.size w ((X.setCell ⟨w.heap.size, 0, none⟩ m).setCell ⟨w.heap.size, 1, none⟩ q) :=
  (h.setCell (p := ⟨w.heap.size, 0, none⟩) (Nat.le_refl _) _).setCell (p := ⟨w.heap.size, 1, none⟩) (Nat.le_refl _) _

theorem POuts.mani {w : World} {base p g c d0 : Nat} {B0 : Option Addr} {mainp : List Pr} {restp : List (List Pr)} (hp : p < base) (h : POuts w base (.slice (some ⟨g, 0, none⟩) (restp.length + 1) c) (mainp :: restp) none)
    (hm : w.cell? ⟨g, 0, none⟩ = some (.slice B0 mainp.length d0)) (u1 u2 : Value) (o c' : Nat) (ho : c' = c - 1) (ho2 : o = 1 ∨ restp = []) :
    Mani ((w.setCell ⟨p, 0, none⟩ u1).setCell ⟨p, 1, none⟩ u2) (.agg #[.slice B0 mainp.length d0, .slice (some ⟨g, o, none⟩) restp.length c']) mainp restp := by
  subst ho
  have hb := (pouts_own h (g := g) rfl).1
  have hf := (h.set (a := ⟨p, 0, none⟩) hp u1).set (a := ⟨p, 1, none⟩) hp u2
  have hc : ((w.setCell ⟨p, 0, none⟩ u1).setCell ⟨p, 1, none⟩ u2).cell? ⟨g, 0, none⟩ = some (.slice B0 mainp.length d0) := by
    have k1 := World.cell?_of_block (a := ⟨g, 0, none⟩) (Below.heap_setCell w ⟨p, 0, none⟩ u1 g (show g ≠ p by omega))
    have k2 := World.cell?_of_block (a := ⟨g, 0, none⟩) (Below.heap_setCell (w.setCell ⟨p, 0, none⟩ u1) ⟨p, 1, none⟩ u2 g (show g ≠ p by omega))
    exact k2.trans (k1.trans hm)
  obtain ⟨A', c2, e, hN, _⟩ := hf.reads
  have e2 : some (⟨g, 0, none⟩ : Addr) = A' ∧ c = c2 := by
    injection e with e1 e2 e3
    exact ⟨e1, e3⟩
  obtain ⟨rfl, rfl⟩ := e2
  obtain ⟨g', o', e3, hg', hcc⟩ := hN.2 (by simp)
  cases e3
  obtain ⟨B, d, h1, h2⟩ := hcc 0 mainp rfl
  rw [Nat.zero_add, hc] at h1
  have e4 : B0 = B ∧ d0 = d := by
    injection h1 with h1
    injection h1 with e1 _ e3
    exact ⟨e1, e3⟩
  obtain ⟨rfl, rfl⟩ := e4
  refine ⟨B0, d0, some ⟨g, o, none⟩, c - 1, rfl, h2, ?_⟩
  rcases ho2 with rfl | rfl
  · have := hN.tail
    rwa [Nat.zero_add] at this
  · exact PNest.nil _ _ _

set_option maxHeartbeats 8000000 in
set_option maxRecDepth 100000 in
theorem parse_any (A : Option Addr) (c : Nat) (b : List UInt8) (w : World) (hx : BAt w A c b) (hl : b.length ≤ 1000000) (hm : MaxP w) :
    Calls Try.prog 8 #[.slice A b.length c] w fun e w' => ∃ v, e = .returned (.tuple #[v, .int .i64 ((Ma.parse b).1 : Nat)]) ∧ Mani w' v ((Ma.parse b).2.headD []) (Ma.parse b).2.tail ∧ Below w.heap.size w w' := by
  have HM := Lib.hid hm
  have hP := Lib.hid (show Ma.parse b = (if 16777216 < b.length then (3, [])
  else if Lib.hasSuffix b [10] = false then (6, [])
  else if (Ma.runl (Ma.cuts b)).1 ≠ 0 then ((Ma.runl (Ma.cuts b)).1, [])
  else if (Ma.parts (Ma.close (Ma.runl (Ma.cuts b)))).1 ≠ 0 then ((Ma.parts (Ma.close (Ma.runl (Ma.cuts b)))).1, [])
  else if (Ma.parts (Ma.close (Ma.runl (Ma.cuts b)))).2 = [] then (2, [])
  else (0, (Ma.parts (Ma.close (Ma.runl (Ma.cuts b)))).2)) from rfl)
  have hcs := Lib.hid (close_small (b := b))
  have hU := Lib.hid (fun w => unfold_any b w hl)
  generalize (Ma.runl (Ma.cuts b)).1 = ue at hP hU
  generalize Ma.close (Ma.runl (Ma.cuts b)) = L at hP hcs hU
  have hS := Lib.hid (fun w => Try.strings_HasSuffix (bs b) ⟨#[10]⟩ w (by rw [bs_size]; omega))
  have k0 := (Below.refl w.heap.size w).alloc (Nat.le_refl _) (.cells #[.slice none 0 0, .slice none 0 0] 27)
  have hcv := (hx.grow k0).text
  have HX := Lib.hid hx
  clear hm hx
  go_enter Try.func8, Try.ntmps8
  have q1 : decide (16777216 < b.length) = false := decide_eq_false (by omega)
  have q1' : decide ((16777216 : Int) < (b.length : Int)) = false := decide_eq_false (by omega)
  go_wp2_with fail
  have q0 : (w.alloc (.cells #[.slice none 0 0, .slice none 0 0] 27)).heap[w.heap.size]? = some (.cells #[.slice none 0 0, .slice none 0 0] 27 (0, 0)) := heap_alloc_new _ _
  generalize w.alloc (.cells #[.slice none 0 0, .slice none 0 0] 27) = W at q0 k0 hcv ⊢
  have hWq : w.heap.size < W.heap.size := (Array.getElem?_eq_some_iff.1 q0).1
  obtain ⟨b1, b2⟩ := blk_facts q0
  have c0 : W.cell? ⟨w.heap.size, 0, none⟩ = some (.slice none 0 0) := b1 0
  have c1 : W.cell? ⟨w.heap.size, 1, none⟩ = some (.slice none 0 0) := b1 1
  have c2 := b2 0
  have c3 := b2 1
  have K0 := Lib.hid k0
  have Q0 := Lib.hid q0
  have HXW := Lib.hid (HX.out.grow k0)
  clear b1 b2 k0 q0 hcv
  refine (hS.out W).mono ?_
  rintro e w' ⟨rfl, hww⟩
  obtain rfl := hww.symm
  have hsuf : Lib.hasSuffix (bs b).data.toList (⟨#[10]⟩ : ByteArray).data.toList = Lib.hasSuffix b [10] := rfl
  rw [hsuf]
  cases hsx : Lib.hasSuffix b [10] with
  | false =>
    have hfin := Lib.hid (show Ma.parse b = (6, []) by rw [hP.out, hsx, if_neg (by omega)]; rfl)
    clear hsuf hsx
    go_wp2
    obtain ⟨y0, y1⟩ := man_put Q0.out (.slice none 0 0) (.slice none 0 0)
    exact bodyPost_ret (results_man rfl rfl y0 y1) rfl ⟨_, by rw [hfin.out]; rfl, by rw [hfin.out]; exact Mani.zero _, below_put K0.out _ _⟩
  | true =>
    clear hsuf
    go_wp2_with fail
    refine (hU.out W).mono ?_
    rintro e w1 ⟨v1, rfl, hO, hb1⟩
    have q1x := (hb1.block _ hWq).trans Q0.out
    obtain ⟨b1, b2⟩ := blk_facts q1x
    have c0' : w1.cell? ⟨w.heap.size, 0, none⟩ = some (.slice none 0 0) := b1 0
    have c1' : w1.cell? ⟨w.heap.size, 1, none⟩ = some (.slice none 0 0) := b1 1
    have c2' := b2 0
    have c3' := b2 1
    have hW1 := hb1.size
    have hW1x := Lib.hid (Nat.lt_of_lt_of_le hWq hW1)
    have Q1 := Lib.hid q1x
    have K1 := Lib.hid (Below.after' K0.out hb1 (Nat.le_refl _))
    obtain ⟨A1, cc1, rfl, hT⟩ := hO.reads
    have HT := Lib.hid hT
    clear hb1 b1 b2 q1x hO hT c0 c1 c2 c3
    by_cases hue : ue = 0
    · subst hue
      have hP2 := Lib.hid (show Ma.parse b = if (Ma.parts L).1 ≠ 0 then ((Ma.parts L).1, []) else if (Ma.parts L).2 = [] then (2, []) else (0, (Ma.parts L).2) by
        rw [hP.out, hsx, if_neg (by omega), if_neg (by simp), if_neg (by simp)])
      clear hsx
      have hLn : L.length ≤ b.length + 1 := hcs.out.1
      go_wp2_with fail
      go_loopw [7, 40] (fun v u wr => ∃ i : Nat, i ≤ L.length ∧ u = .int .i64 i ∧ POuts wr w1.heap.size v (Ma.parts (L.take i)).2 none ∧ (Ma.parts (L.take i)).1 = 0 ∧ wr.heap[w.heap.size]? = some (.cells #[.slice none 0 0, .slice none 0 0] 27 (0, 0)) ∧ Below w1.heap.size w1 wr) (fun _ u _ => L.length - (intOf u).toNat)
      case atStart => exact ⟨0, Nat.zero_le _, rfl, POuts.nil _ _ _, rfl, Q1.out, Below.refl _ _⟩
      case round =>
        rename World => wo
        obtain ⟨i, hil, rfl, hPO, hp0, hq, hB⟩ := hrel
        obtain ⟨Ap, cp, rfl, hPN, hAo⟩ := hPO.reads
        have hplen : (Ma.parts (L.take i)).2.length = i := by rw [Ma.parts_count hp0, List.length_take]; omega
        have HB := Lib.hid hB
        have HQ := Lib.hid hq
        have HPO := Lib.hid hPO
        have hsz := hB.size
        have hwq := (Array.getElem?_eq_some_iff.1 hq).1
        by_cases hi : i < L.length
        · obtain ⟨g, o, ls, B, d, rfl, hg, hls, c5, hTx⟩ := (HT.out.grow hB).at_ hi
          have HTX := Lib.hid hTx
          have hlsm := hcs.out.2 ls (List.mem_of_getElem? hls)
          have hmain : ((i : Int) == 0) = ((Ma.parts (L.take i)).2.length == 0) := by
            rw [hplen, Bool.eq_iff_iff]; simp
          have hnext := Lib.hid (show Ma.parts (L.take (i + 1)) = if (Ma.sect ((Ma.parts (L.take i)).2.length == 0) ls).1 ≠ 0 then ((Ma.sect ((Ma.parts (L.take i)).2.length == 0) ls).1, (Ma.parts (L.take i)).2) else (0, (Ma.parts (L.take i)).2 ++ [(Ma.sect ((Ma.parts (L.take i)).2.length == 0) ls).2]) by
            unfold Ma.parts
            rw [Ma.fold_snoc hls]
            exact if_neg (by unfold Ma.parts at hp0; omega))
          have hbad := Lib.hid (show (Ma.parts (L.take (i + 1))).1 ≠ 0 → Ma.parse b = ((Ma.parts (L.take (i + 1))).1, []) from fun h => by
            have h2 : Ma.parts L = Ma.parts (L.take (i + 1)) := Ma.fold_pre Ma.pstep_err h
            rw [hP2.out, h2, if_pos h])
          generalize hps : (Ma.parts (L.take i)).2 = ps at HPO hPN hplen hmain hnext
          rw [hps] at *
          generalize hmn : (ps.length == 0) = mn at hmain hnext
          have HPN := Lib.hid hPN
          clear hB hq hPO hls hPN hTx hps hmn hp0
          go_wp2_with fail
          refine (open_any mn wo).mono ?_
          rintro e w2 ⟨s, rfl, hS0, hb2⟩
          have K2 := Lib.hid hb2
          have HS0 := Lib.hid hS0
          clear hS0 hb2 c5
          go_wp2_with fail
          go_loopw [50] (fun u wq => ∃ k : Nat, k ≤ ls.length ∧ u = .int .i64 k ∧ (Ma.sect mn (ls.take k)).1 = 0 ∧ Sec wq wo.heap.size s mn (Ma.sect mn (ls.take k)).2 ∧ Below wo.heap.size wo wq) (fun u _ => ls.length - (intOf u).toNat)
          case atStart => exact ⟨0, Nat.zero_le _, rfl, rfl, HS0.out, K2.out⟩
          case round =>
            obtain ⟨k, hkl, rfl, hk0, hSec, hBq⟩ := hrel
            have HBQ := Lib.hid hBq
            have HSec := Lib.hid hSec
            have hsq := hBq.size
            have hqq := (hBq.block _ hwq).trans HQ.out
            have HQQ := Lib.hid hqq
            have hKK := Lib.hid (Below.after' (Below.after' K1.out HB.out (Nat.le_refl _)) hBq (by omega))
            by_cases hkx : k < ls.length
            · obtain ⟨g2, o2, line, rfl, hg2, hline, c6⟩ := (HTX.out.grow hBq).at_ hkx
              have hlen := hlsm.2 line (List.mem_of_getElem? hline)
              have hMq := max_below HM.out hKK.out
              have hCut := Lib.hid (cut_run line wr hMq (by omega))
              have hsk := Lib.hid (show Ma.sect mn (ls.take (k + 1)) = match Ma.header line with
                  | none => (2, (Ma.sect mn (ls.take k)).2)
                  | some p => (Ma.take mn (Ma.sect mn (ls.take k)).2 p, Ma.after mn (Ma.sect mn (ls.take k)).2 p) by
                unfold Ma.sect
                rw [Ma.fold_snoc hline]
                exact if_neg (by unfold Ma.sect at hk0; omega))
              have hbd := Lib.hid (show ∀ e, e ≠ 0 → (Ma.sect mn (ls.take (k + 1))).1 = e → Ma.parse b = (e, []) from fun e h0 h => by
                have h2 : Ma.sect mn ls = Ma.sect mn (ls.take (k + 1)) := Ma.fold_pre (Ma.hstep_err mn) (show _ ≠ 0 by show (Ma.sect mn (ls.take (k + 1))).1 ≠ 0; rw [h]; exact h0)
                have h3 : (Ma.parts (L.take (i + 1))).1 = e := by rw [hnext.out, h2, h, if_pos h0]
                rw [hbad.out (by rw [h3]; exact h0), h3])
              obtain ⟨b3, b4⟩ := blk_facts hqq
              have m0 : wr.cell? ⟨w.heap.size, 0, none⟩ = some (.slice none 0 0) := b3 0
              have m1 : wr.cell? ⟨w.heap.size, 1, none⟩ = some (.slice none 0 0) := b3 1
              have m2 := b4 0
              have m3 := b4 1
              have hal : (Ma.sect mn (ls.take k)).2.length ≤ k := by
                have := Ma.sect_len mn (ls.take k); rw [List.length_take] at this; omega
              generalize (Ma.sect mn (ls.take k)).2 = acc at HSec hsk hal
              clear b3 b4 hqq hBq hSec hk0 hline
              have hzl := bs_size line
              go_wp2_with fail
              refine hCut.out.mono ?_
              rintro e w3 ⟨rfl, hb3⟩
              have K3 := Lib.hid hb3
              have hq3 := (hb3.block _ (by omega)).trans HQQ.out
              have HQ3 := Lib.hid hq3
              obtain ⟨b3, b4⟩ := blk_facts hq3
              have n0 : w3.cell? ⟨w.heap.size, 0, none⟩ = some (.slice none 0 0) := b3 0
              have n1 : w3.cell? ⟨w.heap.size, 1, none⟩ = some (.slice none 0 0) := b3 1
              have n2 := b4 0
              have n3 := b4 1
              have hKK3 := Lib.hid (Below.after' hKK.out hb3 (by omega))
              have hs3 := hb3.size
              clear hb3 hq3 b3 b4 m0 m1 m2 m3 c6
              cases hc : (Lib.cut line [58, 32]).2.2 with
              | false =>
                have hhd : Ma.header line = none := by unfold Ma.header; rw [hc]; rfl
                have hfin := Lib.hid (hbd.out 2 (by decide) (by rw [hsk.out, hhd]))
                clear hc hhd
                go_wp2
                obtain ⟨y0, y1⟩ := man_put HQ3.out (.slice none 0 0) (.slice none 0 0)
                exact bodyPost_ret (results_man rfl rfl y0 y1) rfl ⟨_, by rw [hfin.out]; rfl, by rw [hfin.out]; exact Mani.zero _, below_put hKK3.out _ _⟩
              | true =>
                have hhd : Ma.header line = some ((Lib.cut line [58, 32]).1, (Lib.cut line [58, 32]).2.1) := by unfold Ma.header; rw [hc]; rfl
                have hle := Ma.header_le hhd
                rw [hhd] at hsk
                have hTk := Lib.hid (fun h1 h2 => take_any wo.heap.size s mn acc ((Lib.cut line [58, 32]).1, (Lib.cut line [58, 32]).2.1) w3 (HSec.out.keep K3.out) (by omega) (by omega) h1 h2)
                generalize (Lib.cut line [58, 32]).1 = cn at hle hsk hTk ⊢
                generalize (Lib.cut line [58, 32]).2.1 = cv at hle hsk hTk ⊢
                have hTk2 := Lib.hid (hTk.out (by have := hle.1; simp at this ⊢; omega) (by have := hle.2; simp at this ⊢; omega))
                clear hc hhd hTk
                go_wp2_with fail
                refine hTk2.out.mono ?_
                rintro e w4 ⟨rfl, hS4, hB4⟩
                have HS4 := Lib.hid hS4
                have hKw := Lib.hid (Below.after' K3.out (Below.refl _ _) (Nat.le_refl _))
                have hB34 := (HBQ.out.trans (K3.out.mono hsq)).trans hB4
                have HB34 := Lib.hid hB34
                have hq4 := (hB34.block _ hwq).trans HQ.out
                have HQ4 := Lib.hid hq4
                obtain ⟨b3, b4⟩ := blk_facts hq4
                have p0 : w4.cell? ⟨w.heap.size, 0, none⟩ = some (.slice none 0 0) := b3 0
                have p1 : w4.cell? ⟨w.heap.size, 1, none⟩ = some (.slice none 0 0) := b3 1
                have p2 := b4 0
                have p3 := b4 1
                have hKK4 := Lib.hid (Below.after' (Below.after' K1.out HB.out (Nat.le_refl _)) hB34 (by omega))
                clear hS4 hB4 hB34 hq4 b3 b4 n0 n1 n2 n3
                by_cases ht : Ma.take mn acc (cn, cv) = 0
                · rw [ht] at hsk ⊢
                  have hz0 := Lib.hid (show (Ma.sect mn (ls.take (k + 1))).1 = 0 by rw [hsk.out])
                  have hz1 := Lib.hid (show (Ma.sect mn (ls.take (k + 1))).2 = Ma.after mn acc (cn, cv) by rw [hsk.out])
                  clear ht
                  go_wp2
                  go_roundw
                  case rel => exact ⟨k + 1, by omega, by go_num, hz0.out, by rw [hz1.out]; exact HS4.out, HB34.out⟩
                  case measure => simp [intOf]; omega
                · have hfin := Lib.hid (hbd.out _ ht (by rw [hsk.out]))
                  generalize Ma.take mn acc (cn, cv) = te at ht hfin ⊢
                  have qe : ((te : Int) != 0) = true := by simp [ht]
                  clear ht
                  go_wp2
                  obtain ⟨y0, y1⟩ := man_put HQ4.out (.slice none 0 0) (.slice none 0 0)
                  exact bodyPost_ret (results_man rfl rfl y0 y1) rfl ⟨_, by rw [hfin.out]; rfl, by rw [hfin.out]; exact Mani.zero _, below_put hKK4.out _ _⟩
            · rw [List.take_of_length_le (by omega)] at hk0 HSec
              have hnx := Lib.hid (show Ma.parts (L.take (i + 1)) = (0, ps ++ [(Ma.sect mn ls).2]) by rw [hnext.out, if_neg (by omega)])
              have hacl : (Ma.sect mn ls).2.length ≤ ls.length := Ma.sect_len mn ls
              generalize (Ma.sect mn ls).2 = acc at HSec hnx hacl
              obtain ⟨m, v, g1, g2, g3, g4, g5⟩ := HSec.out
              obtain ⟨As, cs, rfl, _, _⟩ := g3.reads
              obtain ⟨b3, b4⟩ := blk_facts g1
              have m2 : wr.cell? ⟨s, 2, none⟩ = some (.slice As acc.length cs) := b3 2
              have G3 := Lib.hid (g3.low (by omega : w1.heap.size ≤ wo.heap.size))
              have hPQ := HPO.out.grow hBq
              obtain ⟨vals, k1, k2, k3⟩ := hPQ
              have HPQ2 := Lib.hid (HPO.out.grow hBq)
              have V1 := Lib.hid k1
              have V1i := Lib.hid (show wr.ownsRow w1.heap.size 24 1 (.slice Ap i cp) i vals by have h := k1; rw [hplen] at h; exact h)
              have V2 := Lib.hid k2
              have V3 := Lib.hid k3
              clear g1 g2 g3 b3 b4 k1 k2 k3 hBq hSec hqq hk0
              go_wp2_with (at_builtin; refine wpList_appPP rfl _ _ rfl w1.heap.size (.slice Ap i cp) i vals rfl (own_below V1i.out ((Below.refl _ _).alloc (Nat.le_refl _) _)) wr.heap.size (.slice As acc.length cs) rfl 24 (0, 0) rfl (heap_alloc_new _ _) (by omega) (by simp; omega) ?_; intro v5 w5 hown5 hhop5)
              have hB5 := ((HB.out.trans (HBQ.out.mono (by omega))).alloc (o := .cells #[.slice As acc.length cs] 24) (by omega)).trans (hhop5.below (B := w1.heap.size) (by simp; omega) (fun k hk => (pouts_own HPQ2.out (by rw [hplen]; exact hk)).1))
              refine ⟨⟨i + 1, by omega, by go_num, ?_, by rw [hnx.out], ?_, hB5⟩, by simp [intOf]; omega⟩
              · rw [hnx.out]
                exact POuts.app HPQ2.out V1.out V2.out (fun j u x hu hx => (V3.out j u x hu hx).1) rfl G3.out (by rw [hplen]; exact hown5) ((Below.refl wr.heap.size wr).alloc (Nat.le_refl _) (.cells #[.slice As acc.length cs] 24)) (by rw [hplen]; exact hhop5.1)
              · refine (hhop5.1.block _ (by simp; omega) (fun e => ?_)).trans ((Below.heap_alloc _ _ _ (by omega)).trans HQQ.out)
                have := (pouts_own HPQ2.out (by rw [hplen]; exact e.symm)).1
                omega
        · have hLL : L.take i = L := List.take_of_length_le (by omega)
          rw [hLL] at hp0 HPO hplen hPN
          rw [hLL]
          have hP3 := Lib.hid (show Ma.parse b = if (Ma.parts L).2 = [] then (2, []) else (0, (Ma.parts L).2) by rw [hP2.out, if_neg (by omega)])
          generalize (Ma.parts L).2 = ps at hP3 HPO hplen hPN
          have HPN := Lib.hid hPN
          obtain ⟨b3, b4⟩ := blk_facts hq
          have p0 : wo.cell? ⟨w.heap.size, 0, none⟩ = some (.slice none 0 0) := b3 0
          have p1 : wo.cell? ⟨w.heap.size, 1, none⟩ = some (.slice none 0 0) := b3 1
          have p2 := b4 0
          have p3 := b4 1
          have hKK := Lib.hid (Below.after' K1.out HB.out (by omega))
          clear b3 b4 hq hB hPO hPN
          cases ps with
          | nil =>
            obtain rfl : i = 0 := by simpa using hplen.symm
            have hfin := Lib.hid (show Ma.parse b = (2, []) by rw [hP3.out]; rfl)
            go_wp2
            obtain ⟨y0, y1⟩ := man_put HQ.out (.slice none 0 0) (.slice none 0 0)
            exact bodyPost_ret (results_man rfl rfl y0 y1) rfl ⟨_, by rw [hfin.out]; rfl, by rw [hfin.out]; exact Mani.zero _, below_put hKK.out _ _⟩
          | cons mainp restp =>
            obtain rfl : i = restp.length + 1 := by simpa using hplen.symm
            have hfin := Lib.hid (show Ma.parse b = (0, mainp :: restp) by rw [hP3.out]; rfl)
            obtain ⟨g, o, rfl, hg, hcc⟩ := HPN.out.2 (by simp)
            obtain rfl : o = 0 := hAo g o rfl
            obtain ⟨B0, d0, m0, hP0⟩ := hcc 0 mainp rfl
            have hcp : restp.length + 1 ≤ cp := HPN.out.1
            have q5 : ((restp.length + 1 : Nat) == 0) = false := by simp
            have q6 : (((restp.length + 1 : Nat) : Int) == 0) = false := by simp; omega
            have zg : g < wo.drew.heap.size := hg
            have m0' : wo.cell? ⟨g, 0, none⟩ = some (.slice B0 mainp.length d0) := m0
            have hTl := Lib.hid HPN.out.tail
            have HP0 := Lib.hid hP0
            clear hcc m0 hplen hP0
            go_wp2_with fail
            refine wp_region_ord 6 (by kernel_rfl) (by kernel_rfl) (fun _ _ d _ _ h => by cases d <;> exact h) ?_
            simp only [List.take_succ_cons, List.take_zero, List.drop_succ_cons, List.drop_zero]
            repeat (first | (refine wpLex_skip rfl ?_; simp only [Act.put, List.setIfInBounds_toArray, List.set_cons_zero, List.set_cons_succ]) | (refine wpLex_fix rfl ?_; intro F hF R hR hne K hK; go_big_quiet_op; first | (go_big_quiet_on; clear hne hR R hF F) | (apply Exists.intro; refine ⟨fun g => ?_, ?_⟩; (((first | (rw [GrE.cell g _ _ zg]; go_simp; first | exact ⟨rfl, rfl⟩ | rfl) | (go_simp; (repeat (simp only [GrE.cell g _ _ zg]; go_simp)); first | exact ⟨rfl, rfl⟩ | rfl)))); go_big_quiet_on; clear hne hR R hF F)) | (apply wpLex_blk rfl; (focus (intro x hx; go_simp; exact ⟨rfl, rfl⟩)); intro B hB; simp only [Act.put, blkVal, List.setIfInBounds_toArray, List.set_cons_zero, List.set_cons_succ]))
            refine wpLex_nil ?_
            intro w1 hw1
            have hbw := hw1.below
            have hq1 := (hbw.block _ hwq).trans HQ.out
            have HQ1 := Lib.hid hq1
            have HK1 := Lib.hid (Below.after' hKK.out ((Below.refl wo.heap.size wo).drew.trans hbw) (by omega))
            have HTl := Lib.hid (hTl.out.grow ((Below.refl wo.heap.size wo).drew.trans hbw))
            have HP1 := Lib.hid (HP0.out.grow ((Below.refl wo.heap.size wo).drew.trans hbw))
            obtain ⟨b3, b4⟩ := blk_facts hq1
            have r0 : w1.cell? ⟨w.heap.size, 0, none⟩ = some (.slice none 0 0) := b3 0
            have r1 : w1.cell? ⟨w.heap.size, 1, none⟩ = some (.slice none 0 0) := b3 1
            have r2 := b4 0
            have r3 := b4 1
            clear b3 b4 hq1 p0 p1 p2 p3
            have HPO1 := Lib.hid (HPO.out.grow ((Below.refl wo.heap.size wo).drew.trans hbw))
            have m1' := (hbw.cell (p := ⟨g, 0, none⟩) zg).trans m0'
            have hww := hW1x.out
            go_wp2
            · obtain ⟨y0, y1⟩ := man_put HQ1.out (.slice B0 mainp.length d0) (.slice (some ⟨g, 0, none⟩) restp.length 0)
              exact bodyPost_ret (results_man rfl rfl y0 y1) rfl ⟨_, by rw [hfin.out]; rfl, by rw [hfin.out]; exact HPO1.out.mani hww m1' _ _ 0 0 (by omega) (.inr (List.eq_nil_of_length_eq_zero (by omega))), below_put HK1.out _ _⟩
            · obtain ⟨y0, y1⟩ := man_put HQ1.out (.slice B0 mainp.length d0) (.slice (some ⟨g, 1, none⟩) restp.length (cp - 1))
              exact bodyPost_ret (results_man rfl rfl y0 y1) rfl ⟨_, by rw [hfin.out]; rfl, by rw [hfin.out]; exact HPO1.out.mani hww m1' _ _ 1 _ rfl (.inl rfl), below_put HK1.out _ _⟩
    · have hfin := Lib.hid (show Ma.parse b = (ue, []) by rw [hP.out, hsx, if_neg (by omega), if_neg (by simp), if_pos hue])
      have q2 : ((ue : Int) != 0) = true := by simp [hue]
      clear hsx hue
      go_wp2
      obtain ⟨y0, y1⟩ := man_put Q1.out (.slice none 0 0) (.slice none 0 0)
      exact bodyPost_ret (results_man rfl rfl y0 y1) rfl ⟨_, by rw [hfin.out]; rfl, by rw [hfin.out]; exact Mani.zero _, below_put K1.out _ _⟩
end Go.Proofs.Ytbjhnfemlpbchaa
