/- The walk of layer 14: what is read of a text, by the reference. -/
import Derived.Test.YtbjhnfemlpbchaaWalksU
namespace Go.Proofs.Ytbjhnfemlpbchaa
open Go.RowKit Go.Maps

theorem Ma.sect_le {M : Nat} {main : Bool} {ls : List (List UInt8)} (h : ∀ l ∈ ls, l.length ≤ M) : ∀ q ∈ (Ma.sect main ls).2, q.1.length ≤ M ∧ q.2.length ≤ M := by
  have aux : ∀ (ls : List (List UInt8)) (s : Nat × List Pr), (∀ l ∈ ls, l.length ≤ M) → (∀ q ∈ s.2, q.1.length ≤ M ∧ q.2.length ≤ M) → ∀ q ∈ (ls.foldl (Ma.hstep main) s).2, q.1.length ≤ M ∧ q.2.length ≤ M := by
    intro ls
    induction ls with
    | nil => intro s _ hs; exact hs
    | cons x ls ih =>
      intro s hl hs
      rw [List.foldl_cons]
      refine ih _ (fun l hm => hl l (List.mem_cons_of_mem _ hm)) ?_
      have hx := hl x (List.mem_cons_self ..)
      unfold Ma.hstep
      split
      · exact hs
      · split
        · exact hs
        · rename_i p hp
          have := Ma.header_le hp
          unfold Ma.after
          split
          · intro q hq
            rcases List.mem_append.1 hq with hq | hq
            · exact hs q hq
            · rw [List.mem_singleton] at hq; subst hq; omega
          · exact hs
  exact aux ls (0, []) h (fun q hq => by cases hq)
theorem results_man9 {tmps : Array Value} {w : World} {p : Nat} {m q : Value} {e : Value} (h2 : tmps.getD 2 undef = .pointer (some ⟨p, 0, none⟩)) (h3 : tmps.getD 3 undef = e) (h0 : w.cell? ⟨p, 0, none⟩ = some m) (h1 : w.cell? ⟨p, 1, none⟩ = some q) :
    (results Try.f9 tmps).run Try.prog w = .ok (.tuple #[.agg #[m, q], e]) w := by
  rw [results_cell_tmp (p := 2) (u := 3) (ty := 27) rfl, h2, h3]
  simp [asAddr, load_man h0 h1, Result.andThen]

set_option maxHeartbeats 8000000 in
set_option maxRecDepth 100000 in
theorem rparse_any (A : Option Addr) (c : Nat) (b : List UInt8) (w : World) (hx : BAt w A c b) (hl : b.length ≤ 1000000) :
    Calls Try.prog 9 #[.slice A b.length c] w fun e w' => ∃ v, e = .returned (.tuple #[v, .int .i64 ((Ma.parse b).1 : Nat)]) ∧ Mani w' v ((Ma.parse b).2.headD []) (Ma.parse b).2.tail ∧ Below w.heap.size w w' := by
  have hP := Lib.hid (show Ma.parse b = (if 16777216 < b.length then (3, [])
  else if Lib.hasSuffix b [10] = false then (6, [])
  else if (Ma.runl (Ma.cuts b)).1 ≠ 0 then ((Ma.runl (Ma.cuts b)).1, [])
  else if (Ma.parts (Ma.close (Ma.runl (Ma.cuts b)))).1 ≠ 0 then ((Ma.parts (Ma.close (Ma.runl (Ma.cuts b)))).1, [])
  else if (Ma.parts (Ma.close (Ma.runl (Ma.cuts b)))).2 = [] then (2, [])
  else (0, (Ma.parts (Ma.close (Ma.runl (Ma.cuts b)))).2)) from rfl)
  have hcs := Lib.hid (close_small (b := b))
  have hsuf := Ma.suffix_one b 10
  have HX := Lib.hid hx
  clear hx
  go_enter Try.func9, Try.ntmps9
  have q1 : decide (16777216 < b.length) = false := decide_eq_false (by omega)
  have q1' : decide ((16777216 : Int) < (b.length : Int)) = false := decide_eq_false (by omega)
  have q0 : (w.alloc (.cells #[.slice none 0 0, .slice none 0 0] 27)).heap[w.heap.size]? = some (.cells #[.slice none 0 0, .slice none 0 0] 27 (0, 0)) := heap_alloc_new _ _
  have k0 := (Below.refl w.heap.size w).alloc (Nat.le_refl _) (.cells #[.slice none 0 0, .slice none 0 0] 27)
  have HXW := Lib.hid (HX.out.grow k0)
  have hWq : w.heap.size < (w.alloc (.cells #[.slice none 0 0, .slice none 0 0] 27)).heap.size := (Array.getElem?_eq_some_iff.1 q0).1
  obtain ⟨b1, b2⟩ := blk_facts q0
  have c0 : (w.alloc (.cells #[.slice none 0 0, .slice none 0 0] 27)).cell? ⟨w.heap.size, 0, none⟩ = some (.slice none 0 0) := b1 0
  have c1 : (w.alloc (.cells #[.slice none 0 0, .slice none 0 0] 27)).cell? ⟨w.heap.size, 1, none⟩ = some (.slice none 0 0) := b1 1
  have c2 := b2 0
  have c3 := b2 1
  have K0 := Lib.hid k0
  have Q0 := Lib.hid q0
  clear b1 b2 k0 q0
  by_cases hb0 : b = []
  · have hfin := Lib.hid (show Ma.parse b = (6, []) by rw [hP.out, hsuf, hb0]; rfl)
    have p1 : (b.length == 0) = true := by rw [hb0]; rfl
    have p1' : ((b.length : Int) == 0) = true := by rw [hb0]; rfl
    clear hb0 hsuf
    go_wp2
    exact bodyPost_ret (results_man9 rfl rfl c0 c1) rfl ⟨_, by rw [hfin.out]; rfl, by rw [hfin.out]; exact Mani.zero _, K0.out⟩
  obtain ⟨n, hbn⟩ : ∃ n, b.length = n + 1 := ⟨b.length - 1, by have := List.length_pos_iff.2 hb0; omega⟩
  have p1 : (b.length == 0) = false := by rw [hbn]; simp
  have p1' : ((b.length : Int) == 0) = false := by rw [beq_eq_false_iff_ne]; omega
  obtain ⟨gb, ob, d, rfl, hgb, hbd, e1⟩ := bat_at HXW.out (i := n) (by omega)
  have hla : b.getLast? = some d := by rw [List.getLast?_eq_getElem?, hbn]; exact hbd
  have ek : (b.length : Int) - 1 = (n : Int) := by omega
  have hnl : (n : Int) < (b.length : Int) := by omega
  by_cases h10 : d = 10
  case neg =>
    have p2 : ((d.toNat : Int) != 10) = true := by
      rw [bne_iff_ne]; intro h; exact h10 (UInt8.toNat_inj.1 (by show d.toNat = 10; omega))
    have hfin := Lib.hid (show Ma.parse b = (6, []) by
      rw [hP.out, hsuf, hla, if_neg (by omega), if_pos (by simpa using h10)])
    clear hb0 hsuf hla h10 hbd hbn
    go_wp2
    exact bodyPost_ret (results_man9 rfl rfl c0 c1) rfl ⟨_, by rw [hfin.out]; rfl, by rw [hfin.out]; exact Mani.zero _, K0.out⟩
  have p2 : ((d.toNat : Int) != 10) = false := by rw [h10]; rfl
  have hsx : Lib.hasSuffix b [10] = true := by rw [hsuf, hla, h10]; rfl
  have hrp : Ma.runp (Ma.rl b).1 = Ma.runl (Ma.cuts b) := by rw [Ma.rl_cuts (fun _ => by rw [hla, h10]), Ma.runp_map]
  have hU := Lib.hid (fun w hx => sections_any (some ⟨gb, ob, none⟩) c b w hx hl)
  rw [hrp] at hU
  generalize (Ma.runl (Ma.cuts b)).1 = ue at hP hU
  generalize Ma.close (Ma.runl (Ma.cuts b)) = L at hP hcs hU
  clear hb0 hsuf hla h10 hbd hrp hbn
  go_wp2_with fail
  refine (hU.out _ HXW.out).mono ?_
  rintro e w1 ⟨v1, rfl, hO, hb1⟩
  have q1x := (hb1.block _ hWq).trans Q0.out
  obtain ⟨b1, b2⟩ := blk_facts q1x
  have c0' : w1.cell? ⟨w.heap.size, 0, none⟩ = some (.slice none 0 0) := b1 0
  have c1' : w1.cell? ⟨w.heap.size, 1, none⟩ = some (.slice none 0 0) := b1 1
  have c2' := b2 0
  have c3' := b2 1
  have hW1 := hb1.size
  have hW1x := Lib.hid (Nat.lt_of_lt_of_le hWq hW1)
  have Q1 := Lib.hid q1x
  have K1 := Lib.hid (Below.after' K0.out hb1 (Nat.le_refl _))
  obtain ⟨A1, cc1, rfl, hT⟩ := hO.reads
  have HT := Lib.hid hT
  clear hb1 b1 b2 q1x hO hT c0 c1 c2 c3 e1
  by_cases hue : ue = 0
  · subst hue
    have hP2 := Lib.hid (show Ma.parse b = if (Ma.parts L).1 ≠ 0 then ((Ma.parts L).1, []) else if (Ma.parts L).2 = [] then (2, []) else (0, (Ma.parts L).2) by
      rw [hP.out, hsx, if_neg (by omega), if_neg (by simp), if_neg (by simp)])
    clear hsx
    have hLn : L.length ≤ b.length + 1 := hcs.out.1
    go_wp2_with fail
    go_loopw [6, 43] (fun v u wr => ∃ i : Nat, i ≤ L.length ∧ u = .int .i64 i ∧ POuts wr w1.heap.size v (Ma.parts (L.take i)).2 none ∧ (Ma.parts (L.take i)).1 = 0 ∧ wr.heap[w.heap.size]? = some (.cells #[.slice none 0 0, .slice none 0 0] 27 (0, 0)) ∧ Below w1.heap.size w1 wr) (fun _ u _ => L.length - (intOf u).toNat)
    case atStart => exact ⟨0, Nat.zero_le _, rfl, POuts.nil _ _ _, rfl, Q1.out, Below.refl _ _⟩
    case round =>
      rename World => wo
      obtain ⟨i, hil, rfl, hPO, hp0, hq, hB⟩ := hrel
      obtain ⟨Ap, cp, rfl, hPN, hAo⟩ := hPO.reads
      have hplen : (Ma.parts (L.take i)).2.length = i := by rw [Ma.parts_count hp0, List.length_take]; omega
      rw [hplen]
      have HB := Lib.hid hB
      have HQ := Lib.hid hq
      have HPO := Lib.hid hPO
      have hsz := hB.size
      have hwq := (Array.getElem?_eq_some_iff.1 hq).1
      by_cases hi : i < L.length
      · obtain ⟨g, o, ls, B, d, rfl, hg, hls, c5, hTx⟩ := (HT.out.grow hB).at_ hi
        have HTX := Lib.hid hTx
        have hlsm := hcs.out.2 ls (List.mem_of_getElem? hls)
        have hmain : ((i : Int) == 0) = ((Ma.parts (L.take i)).2.length == 0) := by
          rw [hplen, Bool.eq_iff_iff]; simp
        have hnext := Lib.hid (show Ma.parts (L.take (i + 1)) = if (Ma.sect ((Ma.parts (L.take i)).2.length == 0) ls).1 ≠ 0 then ((Ma.sect ((Ma.parts (L.take i)).2.length == 0) ls).1, (Ma.parts (L.take i)).2) else (0, (Ma.parts (L.take i)).2 ++ [(Ma.sect ((Ma.parts (L.take i)).2.length == 0) ls).2]) by
          unfold Ma.parts
          rw [Ma.fold_snoc hls]
          exact if_neg (by unfold Ma.parts at hp0; omega))
        have hbad := Lib.hid (show (Ma.parts (L.take (i + 1))).1 ≠ 0 → Ma.parse b = ((Ma.parts (L.take (i + 1))).1, []) from fun h => by
          have h2 : Ma.parts L = Ma.parts (L.take (i + 1)) := Ma.fold_pre Ma.pstep_err h
          rw [hP2.out, h2, if_pos h])
        generalize hps : (Ma.parts (L.take i)).2 = ps at HPO hPN hplen hmain hnext
        rw [hps] at *
        generalize hmn : (ps.length == 0) = mn at hmain hnext
        have HPN := Lib.hid hPN
        have hSL := Lib.hid (fun k => Ma.sect_le (main := mn) (ls := ls.take k) (fun l hm => Nat.le_trans (hlsm.2 l (List.mem_of_mem_take hm)) hl))
        clear hB hq hPO hls hPN hTx hps hmn hp0
        go_wp2_with fail
        go_loopw [9, 50] (fun v u wq => ∃ k : Nat, k ≤ ls.length ∧ u = .int .i64 k ∧ (Ma.sect mn (ls.take k)).1 = 0 ∧ PRow wq wo.heap.size v (Ma.sect mn (ls.take k)).2 ∧ Below wo.heap.size wo wq) (fun _ u _ => ls.length - (intOf u).toNat)
        case atStart => exact ⟨0, Nat.zero_le _, rfl, rfl, PRow.nil _ _, Below.refl _ _⟩
        case round =>
          obtain ⟨k, hkl, rfl, hk0, hSec, hBq⟩ := hrel
          have HBQ := Lib.hid hBq
          have HSec := Lib.hid hSec
          have hsq := hBq.size
          have hqq := (hBq.block _ hwq).trans HQ.out
          have HQQ := Lib.hid hqq
          have hKK := Lib.hid (Below.after' (Below.after' K1.out HB.out (Nat.le_refl _)) hBq (by omega))
          obtain ⟨As, cs, rfl, hPr, _⟩ := hSec.reads
          by_cases hkx : k < ls.length
          · obtain ⟨g2, o2, line, rfl, hg2, hline, c6⟩ := (HTX.out.grow hBq).at_ hkx
            have hlen := hlsm.2 line (List.mem_of_getElem? hline)
            have hHd := Lib.hid (rheader_any line wr (by omega))
            have hsk := Lib.hid (show Ma.sect mn (ls.take (k + 1)) = match Ma.header line with
                | none => (2, (Ma.sect mn (ls.take k)).2)
                | some p => (Ma.take mn (Ma.sect mn (ls.take k)).2 p, Ma.after mn (Ma.sect mn (ls.take k)).2 p) by
              unfold Ma.sect
              rw [Ma.fold_snoc hline]
              exact if_neg (by unfold Ma.sect at hk0; omega))
            have hbd := Lib.hid (show ∀ e, e ≠ 0 → (Ma.sect mn (ls.take (k + 1))).1 = e → Ma.parse b = (e, []) from fun e h0 h => by
              have h2 : Ma.sect mn ls = Ma.sect mn (ls.take (k + 1)) := Ma.fold_pre (Ma.hstep_err mn) (show _ ≠ 0 by show (Ma.sect mn (ls.take (k + 1))).1 ≠ 0; rw [h]; exact h0)
              have h3 : (Ma.parts (L.take (i + 1))).1 = e := by rw [hnext.out, h2, h, if_pos h0]
              rw [hbad.out (by rw [h3]; exact h0), h3])
            have hal : (Ma.sect mn (ls.take k)).2.length ≤ k := by
              have := Ma.sect_len mn (ls.take k); rw [List.length_take] at this; omega
            have hqle := Lib.hid (hSL.out k)
            generalize (Ma.sect mn (ls.take k)).2 = acc at HSec hsk hal hPr hqle
            have HPr := Lib.hid hPr
            have hle := Lib.hid (fun p (h : Ma.header line = some p) => Ma.header_le h)
            generalize Ma.header line = hd at hHd hsk hle
            clear hqq hBq hSec hk0 hline hPr
            have hzl := bs_size line
            go_wp2_with fail
            refine hHd.out.mono ?_
            rintro e w3 ⟨rfl, hb3⟩
            have hq3 := (hb3.block _ (by omega)).trans HQQ.out
            have hs3 := hb3.size
            have HB3 := Lib.hid hb3
            have HQ3 := Lib.hid hq3
            clear hb3 hq3 c6
            cases hd with
            | none =>
              have hfin := Lib.hid (hbd.out 2 (by decide) (by rw [hsk.out]))
              have kx := (Below.refl w3.heap.size w3).alloc (Nat.le_refl _) (.cells #[.string (bs []), .string (bs [])] 44)
              have hqx := (kx.block _ (by omega)).trans HQ3.out
              have HQX := Lib.hid hqx
              have HKX := Lib.hid (Below.after' hKK.out (Below.after' HB3.out kx (Nat.le_refl _)) (Nat.le_refl _))
              obtain ⟨b3, b4⟩ := blk_facts hqx
              have n0 : (w3.alloc (.cells #[.string (bs []), .string (bs [])] 44)).cell? ⟨w.heap.size, 0, none⟩ = some (.slice none 0 0) := b3 0
              have n1 : (w3.alloc (.cells #[.string (bs []), .string (bs [])] 44)).cell? ⟨w.heap.size, 1, none⟩ = some (.slice none 0 0) := b3 1
              have n2 := b4 0
              have n3 := b4 1
              clear b3 b4 hqx kx
              unfold pv
              go_wp2
              obtain ⟨y0, y1⟩ := man_put HQX.out (.slice none 0 0) (.slice none 0 0)
              exact bodyPost_ret (results_man9 rfl rfl y0 y1) rfl ⟨_, by rw [hfin.out]; rfl, by rw [hfin.out]; exact Mani.zero _, below_put HKX.out _ _⟩
            | some p =>
              have hlp := hle.out p rfl
              unfold pv
              go_wp2_with fail
              have q2 : (w3.alloc (.cells #[.string (bs p.1), .string (bs p.2)] 44)).heap[w3.heap.size]? = some (.cells #[.string (bs p.1), .string (bs p.2)] 44 (0, 0)) := heap_alloc_new _ _
              have k2 := (Below.refl w3.heap.size w3).alloc (Nat.le_refl _) (.cells #[.string (bs p.1), .string (bs p.2)] 44)
              have hk3 := Below.after' HB3.out k2 (Nat.le_refl _)
              generalize w3.alloc (.cells #[.string (bs p.1), .string (bs p.2)] 44) = W3 at q2 k2 hk3 ⊢
              have hW3 := k2.size
              refine (rcheck_any mn As cs acc p W3 (HPr.out.grow hk3) (by omega) (fun q hq => by have := (hqle.out q hq).1; omega) (by omega) (by omega)).mono ?_
              rintro e w4 ⟨rfl, hb4⟩
              have hs4 := hb4.size
              have hk4 := Below.after' hk3 hb4 (Nat.le_refl _)
              have hq4 := (hb4.block _ (show w.heap.size < W3.heap.size by omega)).trans ((k2.block _ (by omega)).trans HQ3.out)
              have HQ4 := Lib.hid hq4
              have hv4 := (hb4.block _ (Array.getElem?_eq_some_iff.1 q2).1).trans q2
              have hv4l := (Array.getElem?_eq_some_iff.1 hv4).1
              obtain ⟨b3, b4⟩ := blk_facts hq4
              have n0 : w4.cell? ⟨w.heap.size, 0, none⟩ = some (.slice none 0 0) := b3 0
              have n1 : w4.cell? ⟨w.heap.size, 1, none⟩ = some (.slice none 0 0) := b3 1
              have n2 := b4 0
              have n3 := b4 1
              have d1 : w4.cell? ⟨w3.heap.size, 0, none⟩ = some (.string (bs p.1)) := (blk_facts hv4).1 0
              have d2 : w4.cell? ⟨w3.heap.size, 1, none⟩ = some (.string (bs p.2)) := (blk_facts hv4).1 1
              have HS4 := Lib.hid (HSec.out.grow hk4)
              have HK4 := Lib.hid (Below.after' hKK.out hk4 (Nat.le_refl _))
              have HBQ4 := Lib.hid (Below.after' HBQ.out hk4 (Nat.le_refl _))
              clear q2 k2 hk3 hb4 hq4 hv4 b3 b4 hk4
              by_cases ht : Ma.take mn acc p = 0
              · have hz0 := Lib.hid (show Ma.sect mn (ls.take (k + 1)) = (0, acc ++ [p]) by
                  rw [hsk.out]
                  show (Ma.take mn acc p, Ma.after mn acc p) = _
                  rw [after_ok ht, ht])
                rw [ht]
                clear ht
                go_wp2_with (at_builtin; refine wpList_appP rfl _ _ rfl wo.heap.size (.slice As acc.length cs) acc rfl (PRow.grow HS4.out ((Below.refl _ _).alloc (Nat.le_refl _) _)) w4.heap.size p 44 (0, 0) rfl (heap_alloc_new _ _) (by omega) (by simp; omega) ?_)
                intro v5 w5 hown5 hhop5
                obtain ⟨A5, c5, rfl, _, _⟩ := hown5.reads
                have hR5 := Lib.hid hown5
                have hB5 := Lib.hid ((HBQ4.out.alloc (by omega) (.cells #[.string (bs p.1), .string (bs p.2)] 44)).trans (hhop5.below (by simp; omega) (fun k hk => HS4.out.base_le hk)))
                clear hown5 hhop5
                go_wp2
                go_roundw
                case rel => exact ⟨k + 1, by omega, by go_num, by rw [hz0.out], by rw [hz0.out]; exact hR5.out, hB5.out⟩
                case measure => simp [intOf]; omega
              · have hfin := Lib.hid (hbd.out _ ht (by rw [hsk.out]))
                generalize Ma.take mn acc p = te at ht hfin ⊢
                have qe : ((te : Int) != 0) = true := by simp [ht]
                clear ht
                go_wp2
                obtain ⟨y0, y1⟩ := man_put HQ4.out (.slice none 0 0) (.slice none 0 0)
                exact bodyPost_ret (results_man9 rfl rfl y0 y1) rfl ⟨_, by rw [hfin.out]; rfl, by rw [hfin.out]; exact Mani.zero _, below_put HK4.out _ _⟩
          · rw [List.take_of_length_le (by omega)] at hk0 HSec ⊢
            have hnx := Lib.hid (show Ma.parts (L.take (i + 1)) = (0, ps ++ [(Ma.sect mn ls).2]) by rw [hnext.out, if_neg (by omega)])
            have hacl : (Ma.sect mn ls).2.length ≤ ls.length := Ma.sect_len mn ls
            generalize (Ma.sect mn ls).2 = acc at HSec hnx hacl ⊢
            have G3 := Lib.hid (HSec.out.low (by omega : w1.heap.size ≤ wo.heap.size))
            have hPQ := HPO.out.grow hBq
            obtain ⟨vals, k1, k2, k3⟩ := hPQ
            have HPQ2 := Lib.hid (HPO.out.grow hBq)
            have V1 := Lib.hid k1
            have V1i := Lib.hid (show wr.ownsRow w1.heap.size 24 1 (.slice Ap i cp) i vals by have h := k1; rw [hplen] at h; exact h)
            have V2 := Lib.hid k2
            have V3 := Lib.hid k3
            clear k1 k2 k3 hBq hSec hqq hk0 hPr
            go_wp2_with (at_builtin; refine wpList_appPP rfl _ _ rfl w1.heap.size (.slice Ap i cp) i vals rfl (own_below V1i.out ((Below.refl _ _).alloc (Nat.le_refl _) _)) wr.heap.size (.slice As acc.length cs) rfl 24 (0, 0) rfl (heap_alloc_new _ _) (by omega) (by simp; omega) ?_; intro v5 w5 hown5 hhop5)
            have hB5 := ((HB.out.trans (HBQ.out.mono (by omega))).alloc (o := .cells #[.slice As acc.length cs] 24) (by omega)).trans (hhop5.below (B := w1.heap.size) (by simp; omega) (fun k hk => (pouts_own HPQ2.out (by rw [hplen]; exact hk)).1))
            refine ⟨⟨i + 1, by omega, by go_num, ?_, by rw [hnx.out], ?_, hB5⟩, by simp [intOf]; omega⟩
            · rw [hnx.out]
              exact POuts.app HPQ2.out V1.out V2.out (fun j u x hu hx => (V3.out j u x hu hx).1) rfl G3.out (by rw [hplen]; exact hown5) ((Below.refl wr.heap.size wr).alloc (Nat.le_refl _) (.cells #[.slice As acc.length cs] 24)) (by rw [hplen]; exact hhop5.1)
            · refine (hhop5.1.block _ (by simp; omega) (fun e => ?_)).trans ((Below.heap_alloc _ _ _ (by omega)).trans HQQ.out)
              have := (pouts_own HPQ2.out (by rw [hplen]; exact e.symm)).1
              omega
      · have hLL : L.take i = L := List.take_of_length_le (by omega)
        rw [hLL] at hp0 HPO hplen hPN
        have hP3 := Lib.hid (show Ma.parse b = if (Ma.parts L).2 = [] then (2, []) else (0, (Ma.parts L).2) by rw [hP2.out, if_neg (by omega)])
        generalize (Ma.parts L).2 = ps at hP3 HPO hplen hPN
        have HPN := Lib.hid hPN
        obtain ⟨b3, b4⟩ := blk_facts hq
        have p0 : wo.cell? ⟨w.heap.size, 0, none⟩ = some (.slice none 0 0) := b3 0
        have p1 : wo.cell? ⟨w.heap.size, 1, none⟩ = some (.slice none 0 0) := b3 1
        have p2 := b4 0
        have p3 := b4 1
        have hKK := Lib.hid (Below.after' K1.out HB.out (by omega))
        clear b3 b4 hq hB hPO hPN
        cases ps with
        | nil =>
          obtain rfl : i = 0 := by simpa using hplen.symm
          have hfin := Lib.hid (show Ma.parse b = (2, []) by rw [hP3.out]; rfl)
          go_wp2
          obtain ⟨y0, y1⟩ := man_put HQ.out (.slice none 0 0) (.slice none 0 0)
          exact bodyPost_ret (results_man9 rfl rfl y0 y1) rfl ⟨_, by rw [hfin.out]; rfl, by rw [hfin.out]; exact Mani.zero _, below_put hKK.out _ _⟩
        | cons mainp restp =>
          obtain rfl : i = restp.length + 1 := by simpa using hplen.symm
          have hfin := Lib.hid (show Ma.parse b = (0, mainp :: restp) by rw [hP3.out]; rfl)
          obtain ⟨g, o, rfl, hg, hcc⟩ := HPN.out.2 (by simp)
          obtain rfl : o = 0 := hAo g o rfl
          obtain ⟨B0, d0, m0, hP0⟩ := hcc 0 mainp rfl
          have hcp : restp.length + 1 ≤ cp := HPN.out.1
          have q5 : ((restp.length + 1 : Nat) == 0) = false := by simp
          have q6 : (((restp.length + 1 : Nat) : Int) == 0) = false := by simp; omega
          have zg : g < wo.drew.heap.size := hg
          have m0' : wo.cell? ⟨g, 0, none⟩ = some (.slice B0 mainp.length d0) := m0
          have hTl := Lib.hid HPN.out.tail
          have HP0 := Lib.hid hP0
          clear hcc m0 hplen hP0
          go_wp2_with fail
          refine wp_region_ord 6 (by kernel_rfl) (by kernel_rfl) (fun _ _ d _ _ h => by cases d <;> exact h) ?_
          simp only [List.take_succ_cons, List.take_zero, List.drop_succ_cons, List.drop_zero]
          repeat (first | (refine wpLex_skip rfl ?_; simp only [Act.put, List.setIfInBounds_toArray, List.set_cons_zero, List.set_cons_succ]) | (refine wpLex_fix rfl ?_; intro F hF R hR hne K hK; go_big_quiet_op; first | (go_big_quiet_on; clear hne hR R hF F) | (apply Exists.intro; refine ⟨fun g => ?_, ?_⟩; (((first | (rw [GrE.cell g _ _ zg]; go_simp; first | exact ⟨rfl, rfl⟩ | rfl) | (go_simp; (repeat (simp only [GrE.cell g _ _ zg]; go_simp)); first | exact ⟨rfl, rfl⟩ | rfl)))); go_big_quiet_on; clear hne hR R hF F)) | (apply wpLex_blk rfl; (focus (intro x hx; go_simp; exact ⟨rfl, rfl⟩)); intro B hB; simp only [Act.put, blkVal, List.setIfInBounds_toArray, List.set_cons_zero, List.set_cons_succ]))
          refine wpLex_nil ?_
          intro w1 hw1
          have hbw := hw1.below
          have hq1 := (hbw.block _ hwq).trans HQ.out
          have HQ1 := Lib.hid hq1
          have HK1 := Lib.hid (Below.after' hKK.out ((Below.refl wo.heap.size wo).drew.trans hbw) (by omega))
          have HTl := Lib.hid (hTl.out.grow ((Below.refl wo.heap.size wo).drew.trans hbw))
          have HP1 := Lib.hid (HP0.out.grow ((Below.refl wo.heap.size wo).drew.trans hbw))
          obtain ⟨b3, b4⟩ := blk_facts hq1
          have r0 : w1.cell? ⟨w.heap.size, 0, none⟩ = some (.slice none 0 0) := b3 0
          have r1 : w1.cell? ⟨w.heap.size, 1, none⟩ = some (.slice none 0 0) := b3 1
          have r2 := b4 0
          have r3 := b4 1
          clear b3 b4 hq1 p0 p1 p2 p3
          have HPO1 := Lib.hid (HPO.out.grow ((Below.refl wo.heap.size wo).drew.trans hbw))
          have m1' := (hbw.cell (p := ⟨g, 0, none⟩) zg).trans m0'
          have hww := hW1x.out
          go_wp2
          · obtain ⟨y0, y1⟩ := man_put HQ1.out (.slice B0 mainp.length d0) (.slice (some ⟨g, 0, none⟩) restp.length 0)
            exact bodyPost_ret (results_man9 rfl rfl y0 y1) rfl ⟨_, by rw [hfin.out]; rfl, by rw [hfin.out]; exact HPO1.out.mani hww m1' _ _ 0 0 (by omega) (.inr (List.eq_nil_of_length_eq_zero (by omega))), below_put HK1.out _ _⟩
          · obtain ⟨y0, y1⟩ := man_put HQ1.out (.slice B0 mainp.length d0) (.slice (some ⟨g, 1, none⟩) restp.length (cp - 1))
            exact bodyPost_ret (results_man9 rfl rfl y0 y1) rfl ⟨_, by rw [hfin.out]; rfl, by rw [hfin.out]; exact HPO1.out.mani hww m1' _ _ 1 _ rfl (.inl rfl), below_put HK1.out _ _⟩
  · have hfin := Lib.hid (show Ma.parse b = (ue, []) by rw [hP.out, hsx, if_neg (by omega), if_neg (by simp), if_pos hue])
    have q2 : ((ue : Int) != 0) = true := by simp [hue]
    clear hsx hue
    go_wp2
    obtain ⟨y0, y1⟩ := man_put Q1.out (.slice none 0 0) (.slice none 0 0)
    exact bodyPost_ret (results_man9 rfl rfl y0 y1) rfl ⟨_, by rw [hfin.out]; rfl, by rw [hfin.out]; exact Mani.zero _, below_put K1.out _ _⟩
end Go.Proofs.Ytbjhnfemlpbchaa
