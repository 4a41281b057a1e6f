/- Joined texts: WdD, WdF, WdG, WdH, WdI, View, WordsTellRow, WdJ, ViewS, WordsSortRow. -/
import Derived.Test.YtbdkoagagcemcaaPk8
import Derived.Deep.DeepCutAuto
import Derived.LoopN
import Derived.BigQuiet
import Derived.Test.YtbdkoagagcemcaaPk1
import Derived.ProofKit
import Derived.OpenShut
import Derived.Test.YtbdkoagagcemcaaRows
import Derived.Deep.Strs
/- The walk of layer 27: texts are written. -/
namespace Go.Proofs.Ytbdkoagagcemcaa
open Go.RowKit Pp

/-- What the call comes to. -/
def WordsRes (l : List (List UInt8)) (w : World) (ex : Ending) (y : World) : Prop :=
  (wordsE l ≠ 0 ∧ ex = .returned (.tuple #[.slice none 0 0, .int .i64 (wordsE l)]) ∧ Below w.heap.size w y) ∨
  (wordsE l = 0 ∧ ∃ x u, wordsB l = some x ∧ ex = .returned (.tuple #[u, .int .i64 0]) ∧ BRow y w.heap.size 5 u x ∧ Below w.heap.size w y)
set_option maxHeartbeats 8000000 in
set_option maxRecDepth 100000 in
theorem wwrite_any (A : Option Addr) (c : Nat) (l : List (List UInt8)) (w : World) (hx : Txt w A c l) (hl : l.length ≤ 100000) (hs : sumL l ≤ 1000000000) :
    Calls Try.prog 24 #[.slice A l.length c] w (WordsRes l w) := by
  have HX := Lib.hid hx
  have HC := Lib.hid (wcheck_any A c l w hx (by omega) hs)
  clear hx
  by_cases h0 : wordsE l = 0
  rotate_left
  · have q : (wordsE l != 0) = true := by simp [h0]
    have hfin := Lib.hid h0
    clear h0
    go_enter Try.func24, Try.ntmps24
    go_wp2_with fail
    refine HC.out.mono ?_
    rintro ex w0 ⟨rfl, rfl⟩
    go_wp2_with fail
    go_ret2
    exact .inl ⟨hfin.out, rfl, Below.refl _ _⟩
  · obtain ⟨xa, xb, xc, ha, hb, hc, hall⟩ := words_some l hl hs
    have la : xa.length ≤ 6 := by simpa using bandW_len ha
    have lb := bandW_len hb
    have lc := bandW_len hc
    have ltl := wTail_len l []
    rw [wBegins_len] at lb
    rw [wMore_len] at lc
    have HE := Lib.hid h0
    have HALL := Lib.hid hall
    rw [h0] at HC
    have HFA := Lib.hid ha
    have HFB := Lib.hid hb
    have HFC := Lib.hid hc
    have hmk := run_make_row' (P := Try.prog) 22 3 (.int .i64 0) 8 Try.underlying22 infoInt rfl .i64 .i64 l.length (by omega) (by omega)
    clear h0 hall ha hb hc
    go_enter Try.func24, Try.ntmps24
    go_wp2_with fail
    refine HC.out.mono ?_
    rintro ex w0 ⟨rfl, rfl⟩
    clear HC
    go_upto_region 4 with fail
    go_cut [5, 6] (fun s5 s6 wx => ∃ g1 g2, s5 = .slice (some ⟨g1, 0, none⟩) l.length l.length ∧ s6 = .slice (some ⟨g2, 0, none⟩) l.length l.length ∧ g1 ≠ g2 ∧ w0.heap.size ≤ g1 ∧ w0.heap.size ≤ g2 ∧ wx.rowIs g1 3 l.length (fun _ => .int .i64 0) ∧ wx.rowIs g2 3 l.length (fun _ => .int .i64 0) ∧ Below w0.heap.size w0 wx)
    case first =>
      have a1 := Below.refl w0.heap.size w0
      have a2 := a1.alloc (Nat.le_refl _) (.cells (madeCells #[.int .i64 0] l.length) 3)
      have a3 := a2.alloc (by simp) (.cells (madeCells #[.int .i64 0] l.length) 3)
      have r1 := World.rowIs_made w0 (.int .i64 0) l.length 3
      have r2 := World.rowIs_made (w0.alloc (.cells (madeCells #[.int .i64 0] l.length) 3)) (.int .i64 0) l.length 3
      have r3 := r1.alloc (.cells (madeCells #[.int .i64 0] l.length) 3)
      rw [show (w0.alloc (.cells (madeCells #[.int .i64 0] l.length) 3)).heap.size = w0.heap.size + 1 from by simp] at r2
      have A3 := Lib.hid a3
      have R2 := Lib.hid r2
      have R3 := Lib.hid r3
      clear a1 a2 a3 r1 r2 r3
      go_region
      all_goals
        go_wp2_with fail
        go_meet
        case rel => exact ⟨_, _, rfl, rfl, by omega, by omega, by omega, by first | exact R2.out.drew | exact R3.out.drew, by first | exact R2.out.drew | exact R3.out.drew, A3.out.drew⟩
    case rest =>
      obtain ⟨g1, g2, rfl, rfl, hne, hg1, hg2, hr1, hr2, hB0⟩ := hcut
      have hg1s := hr1.lt
      have hg2s := hr2.lt
      have HR1 := Lib.hid hr1
      have HR2 := Lib.hid hr2
      have HB0 := Lib.hid hB0
      clear hr1 hr2 hB0 hmk
      go_wp2_with fail
      go_loopw [7, 8, 29] (fun v s t wr => ∃ (i : Nat) (acc : List UInt8), i ≤ l.length ∧ t = .int .i64 i ∧ s = .string (bs (wPrev [] l i)) ∧ BRow wr wc.heap.size 5 v acc ∧ acc ++ wTail (wPrev [] l i) (l.drop i) = wTail [] l ∧ wr.rowIs g1 3 l.length (fun j => if j < i then .int .i64 ((wBegins [] l).getD j 0) else .int .i64 0) ∧ wr.rowIs g2 3 l.length (fun j => if j < i then .int .i64 ((wMore [] l).getD j 0) else .int .i64 0) ∧ wc.heap.size ≤ wr.heap.size ∧ Below w0.heap.size w0 wr) (fun _ _ t _ => l.length - (intOf t).toNat)
      case atStart => exact ⟨0, [], Nat.zero_le _, rfl, rfl, BRow.nil _ _ _, rfl, HR1.out.congr (fun j _ => by simp), HR2.out.congr (fun j _ => by simp), Nat.le_refl _, HB0.out⟩
      case round =>
        obtain ⟨i, acc, hi, rfl, rfl, hrow, hac, hr1, hr2, hws, hB⟩ := hrel
        have HO1 := Lib.hid hr1
        have HO2 := Lib.hid hr2
        have HR := Lib.hid hrow
        have HA := Lib.hid hac
        have HW := Lib.hid hB
        clear hr1 hr2 hrow hac hB HR1 HR2
        by_cases h1 : i < l.length
        · obtain ⟨g, o, s, rfl, hg, hsi, hct⟩ := (HX.out.grow HW.out).at_ h1
          have p1 : decide ((i : Int) < (l.length : Int)) = true := decide_eq_true (by omega)
          have hsm := sumL_mem hsi
          have HSI := Lib.hid hsi
          have hsz := bs_size s
          have hpl : (wPrev [] l i).length ≤ 1000000000 := by
            unfold wPrev
            split
            · simp
            · cases h9 : l[i - 1]? with
              | none => simp
              | some p => have := sumL_mem h9; simp; omega
          have HSh := Lib.hid (shared_any (wPrev [] l i) s wr hpl (by omega))
          have hge := wBegins_get (last := []) hsi
          have hme := wMore_get (last := []) hsi
          have HGE := Lib.hid (getD_of hge)
          have HME := Lib.hid (getD_of hme)
          have hta := HA.out
          rw [wTail_at hsi, ← List.append_assoc] at hta
          have HTA := Lib.hid hta
          have hpn := Lib.hid (wPrev_succ (last := []) hsi)
          have hsr := shared_le_r (wPrev [] l i) s
          have hal : acc.length ≤ 1000000000 := by
            have := congrArg List.length HA.out
            rw [List.length_append] at this
            omega
          clear hge hme hta hsi hpl
          generalize hP : wPrev [] l i = P at *
          generalize hK : shared P s = k at *
          clear hP hK
          go_wp2_with fail
          refine HSh.out.mono ?_
          rintro ex w5 ⟨rfl, hb5⟩
          have HW5 := Lib.hid (Below.after' HW.out hb5 (Nat.le_refl _))
          have HR5 := Lib.hid (HR.out.grow hb5)
          have q1 := rows_below HO1.out hb5
          have q2 := rows_below HO2.out hb5
          have hws5 := Lib.hid (Nat.le_trans hws hb5.size)
          have hc1 := q1.cell h1
          have hf1 := q1.frozen i
          rw [if_neg (Nat.lt_irrefl i)] at hc1
          have q1b := row_step q1 HGE.out
          have q2b := q2.setOther (a := ⟨g1, i, none⟩) (Ne.symm hne) (.int .i64 k)
          have hcb := q1b.cell h1
          rw [if_pos (Nat.lt_succ_self i), HGE.out] at hcb
          have hc2 := q2b.cell h1
          have hf2 := q2b.frozen i
          rw [if_neg (Nat.lt_irrefl i)] at hc2
          obtain ⟨d, hd⟩ : ∃ d, s.length - k = d := ⟨_, rfl⟩
          have em : (s.length : Int) - (k : Int) = (d : Int) := by omega
          rw [hd] at HME
          have HE2 := Lib.hid (q1b.setOther (a := ⟨g2, i, none⟩) hne (.int .i64 d))
          have HF2 := Lib.hid (row_step q2b HME.out)
          have HR6 := Lib.hid (brow_set (brow_set HR5.out hg1s i (.int .i64 k)) hg2s i (.int .i64 d))
          have HW6 := Lib.hid ((HW5.out.setCell (p := ⟨g1, i, none⟩) hg1 (.int .i64 k)).setCell (p := ⟨g2, i, none⟩) hg2 (.int .i64 d))
          have hcc : ((w5.setCell ⟨g1, i, none⟩ (.int .i64 k)).setCell ⟨g2, i, none⟩ (.int .i64 d)).cell? ⟨g1, i, none⟩ = some (.int .i64 k) := by
            have := HE2.out.cell h1
            rwa [if_pos (Nat.lt_succ_self i), HGE.out] at this
          clear q1 q2 q1b q2b HO1 HO2 HR hb5 HR5 HW5 hws HSh
          go_upto_region 12 with fail
          have hsl := fun w => wd_from s k hsr w
          have hdl : (s.drop k).length ≤ 1000000000 := by rw [List.length_drop]; omega
          have hbg := HW6.out.size
          generalize hQ : s.drop k = q at *
          clear hQ hsz hd em hsr hc1 hf1 hcb hc2 hf2
          go_wp2_with (at_builtin; refine wpList_appBy rfl _ _ _ rfl wc.heap.size _ acc q rfl HR6.out _ rfl (src_string (by kernel_rfl) q) (by omega) (by simp; exact hws5.out) ?_; intro v6 w6 hr6 hp6; have HR7 := Lib.hid hr6; have HP6 := Lib.hid hp6; clear hr6 hp6)
          have hbs := hop_base HR6.out HP6.out (Nat.le_refl _) (by simp; exact hws5.out)
          have HW7 := Lib.hid (HW6.out.trans (hbs.mono HB0.out.size))
          have hsz9 : wc.heap.size ≤ w6.heap.size := by have h9 := hbs.size; simp at h9; exact Nat.le_trans hws5.out h9
          have n1 := HE2.out.of_block (hbs.block g1 hg1s)
          have n2 := HF2.out.of_block (hbs.block g2 hg2s)
          go_roundw
          case rel => exact ⟨i + 1, acc ++ q, by omega, by go_num, by rw [hpn.out], HR7.out, by rw [hpn.out]; exact HTA.out, n1, n2, hsz9, HW7.out⟩
          case measure => simp [intOf]; omega
        · have hii : i = l.length := by omega
          subst hii
          have p1 : decide ((l.length : Int) < (l.length : Int)) = false := decide_eq_false (by omega)
          have hat := HA.out
          rw [List.drop_length, show wTail (wPrev [] l l.length) [] = [] from rfl, List.append_nil] at hat
          subst hat
          have I1 := Lib.hid (ints_full HO1.out (wBegins_len l []) (fun j hj => if_pos hj))
          have I2 := Lib.hid (ints_full HO2.out (wMore_len l []) (fun j hj => if_pos hj))
          clear HO1 HO2 HA
          obtain ⟨At, ct, rfl, hbt⟩ := HR.out.at_
          have HBt := Lib.hid hbt
          clear hbt
          go_wp2_with fail
          have e1 : Below wr.heap.size wr (wr.alloc (.cells #[.int .i64 l.length] 3)) := (Below.refl _ _).alloc (Nat.le_refl _) _
          have HI0 := Lib.hid (show Ints (wr.alloc (.cells #[.int .i64 l.length] 3)) (some ⟨wr.heap.size, 0, none⟩) 1 [(l.length : Int)] from ints_blk wr [(l.length : Int)] 3)
          generalize hV : wr.alloc (.cells #[.int .i64 l.length] 3) = V at *
          have e2 : Below V.heap.size V (V.alloc (.cells #[.slice (some ⟨wr.heap.size, 0, none⟩) 1 1, .slice (some ⟨g1, 0, none⟩) l.length l.length, .slice (some ⟨g2, 0, none⟩) l.length l.length] 22)) := (Below.refl _ _).alloc (Nat.le_refl _) _
          have hvs : V.heap.size = wr.heap.size + 1 := by rw [← hV]; simp
          have HBK := Lib.hid (heap_alloc_new V (.cells #[.slice (some ⟨wr.heap.size, 0, none⟩) 1 1, .slice (some ⟨g1, 0, none⟩) l.length l.length, .slice (some ⟨g2, 0, none⟩) l.length l.length] 22))
          have hW0s : V.heap.size < (V.alloc (.cells #[.slice (some ⟨wr.heap.size, 0, none⟩) 1 1, .slice (some ⟨g1, 0, none⟩) l.length l.length, .slice (some ⟨g2, 0, none⟩) l.length l.length] 22)).heap.size := by simp
          generalize hV0 : V.alloc (.cells #[.slice (some ⟨wr.heap.size, 0, none⟩) 1 1, .slice (some ⟨g1, 0, none⟩) l.length l.length, .slice (some ⟨g2, 0, none⟩) l.length l.length] 22) = W0 at *
          have e12 := e1.trans (e2.mono e1.size)
          have J0 := Lib.hid (HI0.out.grow e2)
          have J1 := Lib.hid (I1.out.grow e12)
          have J2 := Lib.hid (I2.out.grow e12)
          have HBT := Lib.hid (HBt.out.grow e12)
          have HWW := Lib.hid (HW.out.trans (e12.mono HW.out.size))
          have hbz := HWW.out.size
          rw [hvs] at HBK hW0s
          clear hV hV0 hvs e1 e2 e12 HI0 I1 I2 HBt
          generalize hbw0 : wr.heap.size = b0 at *
          clear hbw0
          go_loopw [11, 67] (fun v t wq => ∃ i : Nat, i ≤ 3 ∧ t = .int .i64 i ∧ BRow wq W0.heap.size 5 v ([xa, xb, xc].take i).flatten ∧ Below W0.heap.size W0 wq) (fun _ t _ => 3 - (intOf t).toNat)
          case atStart => exact ⟨0, by omega, rfl, BRow.nil _ _ _, Below.refl _ _⟩
          case round =>
            obtain ⟨i, hi3, rfl, hrow, hB⟩ := hrel
            have hlen3 := three_len (a := xa) (b := xb) (c := xc) i
            obtain ⟨Aa, ca, rfl, _⟩ := hrow.at_
            have HRR := Lib.hid hrow
            have HQ := Lib.hid hB
            by_cases h3 : i < 3
            · have hrow9 : ∃ (P : List Int) (Ap : Option Addr) (cp : Nat) (px : List UInt8), [xa, xb, xc][i]? = some px ∧ bandW P = some px ∧ wr.cell? ⟨b0 + 1, i, none⟩ = some (.slice Ap P.length cp) ∧ Ints wr Ap cp P ∧ (∀ v ∈ P, I64 v) ∧ P.length ≤ 100000 ∧ px.length ≤ 1000000 := by
                have hb9 := (blk_facts ((hB.block (b0 + 1) hW0s).trans HBK.out)).1
                obtain rfl | rfl | rfl : i = 0 ∨ i = 1 ∨ i = 2 := by omega
                · exact ⟨_, some ⟨b0, 0, none⟩, 1, xa, rfl, HFA.out, hb9 0, J0.out.grow hB, nat_i64 (fun v hv => by rw [List.mem_singleton] at hv; omega), by simp, by omega⟩
                · exact ⟨_, some ⟨g1, 0, none⟩, l.length, xb, rfl, HFB.out, by rw [wBegins_len]; exact hb9 1, J1.out.grow hB, nat_i64 (fun v hv => by have := wBegins_mem l [] v hv; omega), by rw [wBegins_len]; exact hl, by omega⟩
                · exact ⟨_, some ⟨g2, 0, none⟩, l.length, xc, rfl, HFC.out, by rw [wMore_len]; exact hb9 2, J2.out.grow hB, nat_i64 (fun v hv => by have := wMore_mem l [] v hv; omega), by rw [wMore_len]; exact hl, by omega⟩
              obtain ⟨P, Ap, cp, px, hpx, hbp, hcell, hPI, hP64, hPl, hpxl⟩ := hrow9
              have hz9 : b0 + 1 < wr.heap.size := Nat.lt_of_lt_of_le hW0s hB.size
              have HT3 := Lib.hid (three_get hpx)
              have HSh := Lib.hid (bwrite_any Ap cp P wr hPI hP64 hPl)
              rw [hbp] at HSh
              have hw9 := hB.size
              have q1 : decide ((i : Int) < 3) = true := decide_eq_true (by omega)
              generalize hacc : ([xa, xb, xc].take i).flatten = acc at *
              clear hacc hpx hbp hPI hP64 hrow hB hi3 p1
              go_wp2_with fail
              refine HSh.out.mono ?_
              rintro ex w5 ⟨u, rfl, hr5, hb5⟩
              obtain ⟨A5, c5, rfl, hba⟩ := hr5.at_
              have HBA := Lib.hid hba
              have HR5 := Lib.hid (HRR.out.grow hb5)
              have HW5 := Lib.hid (HQ.out.trans (hb5.mono HQ.out.size))
              clear hb5 hba hr5 HSh
              go_wp2_with (at_builtin; refine wpList_appBy rfl _ _ _ rfl W0.heap.size _ acc px rfl HR5.out _ rfl HBA.out.src (by omega) HW5.out.size ?_; intro v6 w6 hr6 hp6; have HR6 := Lib.hid hr6; have HW6 := Lib.hid (HW5.out.trans (hop_base HR5.out hp6 (Nat.le_refl _) HW5.out.size)); clear hr6 hp6)
              go_roundw
              case rel => exact ⟨i + 1, by omega, by go_num, by rw [HT3.out]; exact HR6.out, HW6.out⟩
              case measure => simp [intOf]; omega
            · have hi4 : i = 3 := by omega
              subst hi4
              have q1 : decide ((3 : Int) < 3) = false := by decide
              have hall : ([xa, xb, xc].take 3).flatten = xa ++ xb ++ xc := by simp
              rw [hall] at HRR hlen3 ⊢
              have hfl : (xa ++ xb ++ xc).length ≤ xa.length + xb.length + xc.length := by simp only [List.length_append]; omega
              have HTT := Lib.hid (HBT.out.grow HQ.out)
              have HFIN := Lib.hid (HALL.out)
              generalize hacc : xa ++ xb ++ xc = acc at *
              generalize hwt : wTail [] l = tl at *
              have hqs := HQ.out.size
              clear hacc hall hrow hB p1 hwt
              go_wp2_with (at_builtin; refine wpList_appBy rfl _ _ _ rfl W0.heap.size _ acc tl rfl HRR.out _ rfl HTT.out.src (by omega) hqs ?_; intro v6 w6 hr6 hp6; have HR6 := Lib.hid hr6; have HW6 := Lib.hid (HQ.out.trans (hop_base HRR.out hp6 (Nat.le_refl _) hqs)); clear hr6 hp6)
              go_ret2
              exact .inr ⟨HE.out, _, _, HFIN.out, rfl, brow_mono HR6.out (by omega), HWW.out.trans (HW6.out.mono hbz)⟩
end Go.Proofs.Ytbdkoagagcemcaa

/- The walks of layer 27's laws' helpers: few, same. -/
namespace Go.Proofs.Ytbdkoagagcemcaa
open Go.RowKit Pp

def fewW (l : List (List UInt8)) : Bool := l.all (fun s => decide (s.length ≤ 300)) && decide (l.length ≤ 100)
theorem fewW_sum {l : List (List UInt8)} : ∀ i, (∀ s ∈ l.take i, s.length ≤ 300) → sumL (l.take i) ≤ 300 * i := by
  intro i
  induction i with
  | zero => intro _; simp [sumL]
  | succ i ih =>
    intro h
    by_cases hi : i < l.length
    · obtain ⟨s, hs⟩ : ∃ s, l[i]? = some s := ⟨_, List.getElem?_eq_getElem hi⟩
      have h1 := ih (fun s hs => h s (by
        have : l.take i = (l.take (i + 1)).take i := by rw [List.take_take]; congr 1; omega
        rw [this] at hs
        exact List.mem_of_mem_take hs))
      have h2 := h s (by
        have : (l.take (i + 1))[i]? = some s := by rw [List.getElem?_take, if_pos (by omega)]; exact hs
        exact List.mem_of_getElem? this)
      rw [sumL_take_succ hs]
      omega
    · rw [List.take_of_length_le (by omega)]
      rw [List.take_of_length_le (by omega)] at h
      have h1 := ih (fun s hs => h s (List.mem_of_mem_take hs))
      rw [List.take_of_length_le (by omega)] at h1
      omega
theorem fewW_facts {l : List (List UInt8)} (h : fewW l = true) : (∀ s ∈ l, s.length ≤ 300) ∧ l.length ≤ 100 ∧ sumL l ≤ 30000 := by
  unfold fewW at h
  rw [Bool.and_eq_true, List.all_eq_true] at h
  have h1 : ∀ s ∈ l, s.length ≤ 300 := fun s hs => of_decide_eq_true (h.1 s hs)
  have h2 := of_decide_eq_true h.2
  have h3 := fewW_sum (l := l) 100 (fun s hs => h1 s (List.mem_of_mem_take hs))
  rw [List.take_of_length_le h2] at h3
  exact ⟨h1, h2, by omega⟩
theorem fewW_of {l : List (List UInt8)} (h1 : ∀ s ∈ l, s.length ≤ 300) (h2 : l.length ≤ 100) : fewW l = true := by
  unfold fewW
  rw [Bool.and_eq_true, List.all_eq_true]
  exact ⟨fun s hs => decide_eq_true (h1 s hs), decide_eq_true h2⟩
set_option maxHeartbeats 4000000 in
set_option maxRecDepth 100000 in
theorem few_any (A : Option Addr) (c : Nat) (l : List (List UInt8)) (w : World) (hx : Txt w A c l) (hl : l.length ≤ 9223372036854775807) :
    Calls Try.prog 22 #[.slice A l.length c] w fun ex y => (∃ s : Int, ex = .returned (.tuple #[.int .i64 s, .bool (fewW l)]) ∧ (fewW l = true → s = (sumL l : Nat))) ∧ y = w := by
  have HX := Lib.hid hx
  clear hx
  go_enter Try.func22, Try.ntmps22
  go_wp2_with fail
  go_loop [4, 9] (fun s t => ∃ (i : Nat) (S : Int), i ≤ l.length ∧ t = .int .i64 i ∧ s = .int .i64 S ∧ (∀ x ∈ l.take i, x.length ≤ 300) ∧ (i ≤ 100 → S = (sumL (l.take i) : Nat))) (fun _ t => l.length - (intOf t).toNat)
  case atStart => exact ⟨0, 0, Nat.zero_le _, rfl, rfl, (fun x hx => by simp at hx), fun _ => by simp [sumL]⟩
  case round =>
    obtain ⟨i, S, hi, rfl, rfl, hall, hS⟩ := hrel
    have HA := Lib.hid hall
    have HS := Lib.hid hS
    clear hall hS
    by_cases h1 : i < l.length
    · obtain ⟨g, o, s, rfl, hg, hsi, hct⟩ := HX.out.at_ h1
      have hsz := bs_size s
      have p1 : decide ((i : Int) < (l.length : Int)) = true := decide_eq_true (by omega)
      have HSI := Lib.hid hsi
      clear hsi
      by_cases h3 : 300 < s.length
      · have q1 : decide ((300 : Int) < (s.length : Int)) = true := decide_eq_true (by omega)
        have q2 : decide (300 < s.length) = true := decide_eq_true h3
        have hfin := Lib.hid (show fewW l = false by
          unfold fewW
          rw [show l.all (fun s => decide (s.length ≤ 300)) = false from by
            rw [List.all_eq_false]
            exact ⟨s, List.mem_of_getElem? HSI.out, by simp; omega⟩]
          rfl)
        clear h3
        go_wp2_with fail
        go_ret2
        exact ⟨⟨0, by rw [hfin.out]; rfl, fun h => by rw [hfin.out] at h; cases h⟩, rfl⟩
      · have q1 : decide ((300 : Int) < (s.length : Int)) = false := decide_eq_false (by omega)
        have q2 : decide (300 < s.length) = false := decide_eq_false h3
        have ha := Lib.hid (show ∀ x ∈ l.take (i + 1), x.length ≤ 300 from fun x hx => by
          obtain ⟨h4, h5⟩ := List.getElem?_eq_some_iff.1 HSI.out
          rw [List.take_succ_eq_append_getElem h4, List.mem_append] at hx
          rcases hx with hx | hx
          · exact HA.out x hx
          · simp at hx
            rw [hx, h5]
            omega)
        by_cases h100 : i < 100
        · have hb := fewW_sum (l := l) i HA.out
          have hS2 := HS.out (by omega)
          have hsum := Lib.hid (sumL_take_succ HSI.out)
          generalize hSS : sumL (l.take i) = S0 at *
          subst hS2
          clear hSS
          go_wp2_with fail
          go_round
          case rel => exact ⟨i + 1, ((S0 + s.length : Nat) : Int), by omega, by go_num, by go_num, ha.out, fun _ => by rw [hsum.out]⟩
          case measure => simp [intOf]; omega
        · go_wp2_with fail
          go_round
          case rel => exact ⟨i + 1, _, by omega, by go_num, rfl, ha.out, fun h => by omega⟩
          case measure => simp [intOf]; omega
    · have hii : i = l.length := by omega
      subst hii
      have ht : l.take l.length = l := List.take_length
      have hall := HA.out
      have hS := HS.out
      rw [ht] at hall hS
      have hfin : fewW l = decide (l.length ≤ 100) := by
        unfold fewW
        rw [show l.all (fun s => decide (s.length ≤ 300)) = true from List.all_eq_true.2 fun s hs => decide_eq_true (hall s hs)]
        rfl
      have HFI := Lib.hid hfin
      have HSS := Lib.hid (fun h => hS (of_decide_eq_true (hfin ▸ h)))
      have p3 : decide ((l.length : Int) ≤ 100) = decide (l.length ≤ 100) := by
        by_cases h : l.length ≤ 100
        · rw [decide_eq_true h, decide_eq_true (by omega)]
        · rw [decide_eq_false h, decide_eq_false (by omega)]
      clear hall hS ht hfin
      go_wp2_with fail
      go_ret2
      exact ⟨⟨S, by rw [HFI.out]; simp, HSS.out⟩, rfl⟩
theorem wsame_step {l m : List (List UInt8)} {i : Nat} {x y : List UInt8} (h1 : l[i]? = some x) (h2 : m[i]? = some y) (h : l.take i = m.take i) : l.take (i + 1) = m.take (i + 1) ↔ x = y := by
  obtain ⟨a1, rfl⟩ := List.getElem?_eq_some_iff.1 h1
  obtain ⟨a2, rfl⟩ := List.getElem?_eq_some_iff.1 h2
  rw [List.take_succ_eq_append_getElem a1, h]
  constructor
  · intro e
    rw [List.take_succ_eq_append_getElem a2] at e
    exact List.singleton_inj.1 (List.append_cancel_left e)
  · intro e
    rw [List.take_succ_eq_append_getElem a2, e]
set_option maxHeartbeats 4000000 in
set_option maxRecDepth 100000 in
theorem wsame_any (A B : Option Addr) (c d : Nat) (l m : List (List UInt8)) (w : World) (hx : Txt w A c l) (hy : Txt w B d m) (hl : l.length ≤ 1000000) (_hm : m.length ≤ 1000000) :
    Calls Try.prog 26 #[.slice A l.length c, .slice B m.length d] w fun ex y => ex = .returned (.bool (decide (l = m))) ∧ Below w.heap.size w y := by
  have HX := Lib.hid hx
  have HY := Lib.hid hy
  clear hx hy
  by_cases hlen : l.length = m.length
  rotate_left
  · have q1 : ((l.length : Int) != (m.length : Int)) = true := by simp; omega
    have hfin := Lib.hid (show decide (l = m) = false from decide_eq_false fun e => hlen (by rw [e]))
    clear hlen
    go_enter Try.func26, Try.ntmps26
    go_wp2_with fail
    go_ret
    exact ⟨ret_bool hfin.out.symm, Below.refl _ _⟩
  · have q1 : ((l.length : Int) != (m.length : Int)) = false := by rw [hlen]; simp
    have HL := Lib.hid hlen
    clear hlen
    go_enter Try.func26, Try.ntmps26
    go_wp2_with fail
    go_loopw [13] (fun t wr => ∃ i : Nat, i ≤ l.length ∧ t = .int .i64 i ∧ l.take i = m.take i ∧ Below w.heap.size w wr) (fun t _ => l.length - (intOf t).toNat)
    case atStart => exact ⟨0, Nat.zero_le _, rfl, by simp, Below.refl _ _⟩
    case round =>
      obtain ⟨i, hi, rfl, htk, hB⟩ := hrel
      have HT := Lib.hid htk
      have HB := Lib.hid hB
      clear htk
      by_cases h1 : i < l.length
      · obtain ⟨g, o, x, rfl, hg, hxi, hcx⟩ := (HX.out.grow hB).at_ h1
        have h2 : i < m.length := by have := HL.out; omega
        obtain ⟨g', o', y, rfl, hg', hyi, hcy⟩ := (HY.out.grow hB).at_ h2
        have p1 : decide ((i : Int) < (l.length : Int)) = true := decide_eq_true (by omega)
        have p2 : decide (i < m.length) = true := decide_eq_true h2
        have hst := Lib.hid (wsame_step hxi hyi HT.out)
        have HXI := Lib.hid hxi
        have HYI := Lib.hid hyi
        have heq := bs_beq x y
        clear hxi hyi hB
        by_cases hxy : x = y
        · rw [decide_eq_true hxy] at heq
          have hs2 := Lib.hid (hst.out.2 hxy)
          clear hxy
          go_wp2_with fail
          refine wp_region_grow (by kernel_rfl) (by kernel_rfl) ?_
          repeat (go_big_quiet_step (fail))
          refine wpQuiet_nil ?_
          intro g1
          obtain ⟨w1, hb1⟩ := g1
          have HB2 := Lib.hid (Below.after' HB.out hb1 (Nat.le_refl _))
          dsimp only
          clear hb1
          go_wp2_with fail
          go_roundw
          case rel => exact ⟨i + 1, by omega, by go_num, hs2.out, HB2.out⟩
          case measure => simp [intOf]; omega
        · rw [decide_eq_false hxy] at heq
          have hfin := Lib.hid (show decide (l = m) = false from decide_eq_false fun e => hxy (by
            have h5 := HXI.out
            rw [e, HYI.out] at h5
            exact (Option.some.inj h5).symm))
          clear hxy
          go_wp2_with fail
          refine wp_region_grow (by kernel_rfl) (by kernel_rfl) ?_
          repeat (go_big_quiet_step (fail))
          refine wpQuiet_nil ?_
          intro g1
          obtain ⟨w1, hb1⟩ := g1
          have HB2 := Lib.hid (Below.after' HB.out hb1 (Nat.le_refl _))
          dsimp only
          clear hb1
          go_wp2_with fail
          go_ret
          exact ⟨ret_bool hfin.out.symm, HB2.out⟩
      · have hii : i = l.length := by omega
        subst hii
        have p1 : decide ((l.length : Int) < (l.length : Int)) = false := decide_eq_false (by omega)
        have h9 := HT.out
        rw [List.take_length, List.take_of_length_le (by rw [HL.out]; exact Nat.le_refl _)] at h9
        have hfin := Lib.hid (show decide (l = m) = true from decide_eq_true h9)
        clear hB h9
        go_wp2_with fail
        go_ret
        exact ⟨ret_bool hfin.out.symm, HB.out⟩
end Go.Proofs.Ytbdkoagagcemcaa

/- The walk of layer 27's law's fixed samples. -/
namespace Go.Proofs.Ytbdkoagagcemcaa
open Go.RowKit Pp

theorem wc_get {l : List (List UInt8)} {j : Nat} {x : List UInt8} (h : l[j]? = some x) : (l.map fun s => Value.string (bs s))[j]? = some (.string (bs x)) := by simp [h]
theorem txt_blk (w : World) (l : List (List UInt8)) (t : TypeId) : Txt (w.alloc (.cells (l.map fun s => Value.string (bs s)).toArray t)) (some ⟨w.heap.size, 0, none⟩) l.length l :=
  ⟨Nat.le_refl _, fun _ => ⟨w.heap.size, 0, rfl, by simp, fun j x hx => by
    rw [Nat.zero_add, (blk_facts (heap_alloc_new w (.cells (l.map fun s => Value.string (bs s)).toArray t))).1 j]
    simp only [List.getElem?_toArray]
    exact wc_get hx⟩⟩
theorem fixed_e1 : wordsE [[97], [97, 98]] = 0 := by decide
theorem fixed_e2 : wordsE [[98], [97]] = 2 := by decide
theorem fixed_m : (([[98], [97], [98]] : List (List UInt8)).mergeSort fun x y => decide (x ≤ y)) = [[97], [98], [98]] := by
  simp [List.mergeSort, List.MergeSort.Internal.splitInTwo, List.merge]
  rw [if_neg (show ¬ ([98] : List UInt8) ≤ [97] by decide)]
  simp [(show ([97] : List UInt8) ≤ [98] by decide)]
theorem fixed_s : Wo.sort [[98], [97], [98]] = [[97], [98]] := by
  unfold Wo.sort
  rw [fixed_m]
  decide
set_option maxHeartbeats 8000000 in
set_option maxRecDepth 100000 in
theorem wfixed_any (w : World) : Calls Try.prog 21 #[] w fun ex y => ex = .returned (.bool true) ∧ Below w.heap.size w y := by
  have k1 := (Below.refl w.heap.size w).alloc (Nat.le_refl _) (.cells #[.string ⟨#[97]⟩, .string ⟨#[97, 98]⟩] 9)
  have HW1 := Lib.hid (wwrite_any (some ⟨w.heap.size, 0, none⟩) 2 [[97], [97, 98]] _ (txt_blk w [[97], [97, 98]] 9) (by decide) (by decide))
  have K1 := Lib.hid k1
  clear k1
  go_enter Try.func21, Try.ntmps21
  go_wp2_with fail
  refine HW1.out.mono ?_
  rintro ex w1 (⟨h, _⟩ | ⟨_, x, u, hx, rfl, hr1, hb1⟩)
  · exact absurd fixed_e1 h
  obtain ⟨A1, c1, rfl, hba1, hA1⟩ := brow_at2 hr1
  have hxl := words_len hx
  have hxl2 : x.length ≤ 100 := by
    rw [show sumL [[97], [97, 98]] = 3 from by decide] at hxl
    simp at hxl
    omega
  have hrd := Lib.hid (words_back hx fixed_e1 (most := 10) (by decide) (by decide) [])
  rw [List.append_nil] at hrd
  have HN := Lib.hid (cnew_any A1 c1 x w1 hba1 (by omega) hA1)
  have HB1 := Lib.hid (K1.out.trans (Below.mono hb1 (by simp)))
  clear hr1 hba1 hA1 hxl hb1 hx HW1
  go_wp2_with fail
  refine HN.out.mono ?_
  rintro ex w2 ⟨b, A2, c2, rfl, hc2, hbn, hb2⟩
  have HB2 := Lib.hid (Below.after' HB1.out hb2 (Nat.le_refl _))
  have HRd := Lib.hid (wread_any hc2 10 (by unfold I64; omega) (by omega))
  have hwb := Lib.hid (Nat.le_trans HB1.out.size hbn)
  clear hc2 hbn hb2 HN
  go_wp2_with fail
  refine HRd.out.mono ?_
  rintro ex w3 ⟨u3, vs, m, e3, rfl, hr3, hc3, ho3, hg3⟩
  rw [List.drop_zero, hrd.out] at ho3
  obtain ⟨rfl, hvs, hm⟩ := ho3
  dsimp only at hvs hm
  subst hvs
  obtain ⟨A3, c3, rfl, ht3⟩ := hr3.reads
  have HB3 := Lib.hid (HB2.out.grown hg3 HB2.out.size (fun k hk => by cases hk; exact hwb.out))
  have HC3 := Lib.hid hc3
  have hml : m = x.length := by
    have h1 := congrArg List.length hm
    rw [List.length_drop] at h1
    simp at h1
    have := hc3.le
    omega
  have HML := Lib.hid hml
  have HT3 := Lib.hid ht3
  have k4 := Lib.hid ((Below.refl w3.heap.size w3).alloc (Nat.le_refl _) (.cells #[.string ⟨#[98]⟩, .string ⟨#[97]⟩] 9))
  have HW2 := Lib.hid (wwrite_any (some ⟨w3.heap.size, 0, none⟩) 2 [[98], [97]] _ (txt_blk w3 [[98], [97]] 9) (by decide) (by decide))
  clear hr3 ht3 hc3 hg3 hm hml HRd
  go_wp2_with fail
  refine HW2.out.mono ?_
  rintro ex w4 (⟨_, rfl, hb4⟩ | ⟨h, _⟩)
  rotate_left
  · rw [fixed_e2] at h; exact absurd h (by decide)
  rw [fixed_e2]
  have KK4 := Lib.hid (k4.out.trans (hb4.mono k4.out.size))
  have k5 := Lib.hid ((Below.refl w4.heap.size w4).alloc (Nat.le_refl _) (.cells #[.string ⟨#[98]⟩, .string ⟨#[97]⟩, .string ⟨#[98]⟩] 9))
  have HS5 := Lib.hid (wdsort_any (some ⟨w4.heap.size, 0, none⟩) 3 [[98], [97], [98]] _ (txt_blk w4 [[98], [97], [98]] 9) (by decide))
  clear hb4 HW2 k4
  go_wp2_with fail
  refine HS5.out.mono ?_
  rintro ex w5 ⟨u5, rfl, hr5, hb5⟩
  rw [fixed_s] at hr5
  obtain ⟨A5, c5, rfl, ht5⟩ := hr5.reads
  have KK5 := Lib.hid (KK4.out.trans ((k5.out.trans (hb5.mono k5.out.size)).mono KK4.out.size))
  have HT5 := HT3.out.grow KK5.out
  have hcE := HC3.out.grow KK5.out
  have HE := Lib.hid (cend_ok hcE HML.out)
  have HB5 := Lib.hid (HB3.out.trans (KK5.out.mono HB3.out.size))
  obtain ⟨g3, o3, rfl, hg3, hs3⟩ := HT5.2 (by decide)
  have d1 := hs3 1 [97, 98] rfl
  obtain ⟨g5, o5, rfl, hg5, hs5⟩ := ht5.2 (by decide)
  have d0 := hs5 0 [97] rfl
  rw [Nat.add_zero] at d0
  have hcp3 : 2 ≤ c3 := HT5.1
  have hcp5 : 2 ≤ c5 := ht5.1
  have q1 := bs_list [97, 98]
  have q2 := bs_list [97]
  clear hr5 ht5 HT5 hcE hs3 hs5 hb5 k5 KK5 KK4 HC3 HT3 HML hrd
  go_wp2_with fail
  refine HE.out.mono ?_
  rintro ex w6 ⟨rfl, hb6⟩
  have hd0 : w6.cell? ⟨g5, o5, none⟩ = some (.string (bs [97])) := (hb6.cell (p := ⟨g5, o5, none⟩) hg5).trans d0
  have HB6 := Lib.hid (HB5.out.trans (hb6.mono HB5.out.size))
  clear d0 d1 hb6
  go_wp2_with fail
  go_ret
  exact ⟨rfl, HB6.out⟩
end Go.Proofs.Ytbdkoagagcemcaa

/- The walk of WordsBack. -/
namespace Go.Proofs.Ytbdkoagagcemcaa
open Go.RowKit Pp

theorem Wo.sort_len (l : List (List UInt8)) : (Wo.sort l).length ≤ l.length := by
  unfold Wo.sort Lib.compact Lib.compactUpTo
  rw [List.length_map]
  refine Nat.le_trans (List.length_filter_le _ _) ?_
  simp [List.length_mergeSort]
theorem rises_pair : ∀ {l : List (List UInt8)}, Wo.Rises l → risesL l
  | [], _ => trivial
  | [_], _ => trivial
  | a :: b :: l, h => by
    have h1 := List.pairwise_cons.1 h
    exact ⟨h1.1 b (by simp), rises_pair h1.2⟩
theorem sort_few {l : List (List UInt8)} (h : fewW l = true) : fewW (Wo.sort l) = true := by
  obtain ⟨h1, h2, _⟩ := fewW_facts h
  exact fewW_of (fun s hs => h1 s ((Wo.sort_mem l s).1 hs)) (Nat.le_trans (Wo.sort_len l) h2)
theorem sort_e {l : List (List UInt8)} (h : fewW l = true) : wordsE (Wo.sort l) = 0 := by
  obtain ⟨_, h2, h3⟩ := fewW_facts (sort_few h)
  unfold wordsE
  rw [if_neg (by omega), if_neg (fun h => h (rises_pair (Wo.sort_rises l))), if_neg (by omega)]
set_option maxHeartbeats 8000000 in
set_option maxRecDepth 100000 in
theorem wordsback_law (A B : Option Addr) (c d : Nat) (l : List (List UInt8)) (q : List UInt8) (w : World) (hx : Txt w A c l) (hl : l.length ≤ 9223372036854775807) (hy : BAt w B d q) :
    Calls Try.prog 5 #[.slice A l.length c, .slice B q.length d] w fun e w' => e = .returned (.bool true) ∧ Below w.heap.size w w' := by
  have HX := Lib.hid hx
  have HY := Lib.hid hy
  clear hx hy
  go_enter Try.func5, Try.ntmps5
  go_wp2_with fail
  refine (wfixed_any w).mono ?_
  rintro ex w0 ⟨rfl, hb0⟩
  have HB0 := Lib.hid hb0
  have HF := Lib.hid (few_any A c l w0 (HX.out.grow hb0) hl)
  clear hb0
  go_wp2_with fail
  refine HF.out.mono ?_
  rintro ex w00 ⟨⟨s0, rfl, _⟩, ew⟩
  have ew := ew.symm
  subst ew
  clear HF
  cases hfew : fewW l with
  | false =>
    go_wp2_with fail
    go_ret
    exact ⟨rfl, HB0.out⟩
  | true =>
    by_cases hq : 50 < q.length
    · have p3 : decide ((50 : Int) < (q.length : Int)) = true := decide_eq_true (by omega)
      have p4 : decide (50 < q.length) = true := decide_eq_true hq
      go_wp2_with fail
      go_ret
      exact ⟨rfl, HB0.out⟩
    have p3 : decide ((50 : Int) < (q.length : Int)) = false := decide_eq_false (by omega)
    have p4 : decide (50 < q.length) = false := decide_eq_false hq
    obtain ⟨_, hlen, _⟩ := fewW_facts hfew
    have hfs := sort_few hfew
    obtain ⟨_, hsl, hss⟩ := fewW_facts hfs
    have HE := Lib.hid (sort_e hfew)
    have HFS := Lib.hid hfs
    have HSo := Lib.hid (wdsort_any A c l w0 (HX.out.grow HB0.out) (by omega))
    clear hfew hfs
    generalize hS : Wo.sort l = ss at *
    clear hS
    go_wp2_with fail
    refine HSo.out.mono ?_
    rintro ex w1 ⟨v1, rfl, hr1, hb1⟩
    obtain ⟨A1, c1, rfl, ht1⟩ := hr1.reads
    have HT1 := Lib.hid ht1
    have HB1 := Lib.hid (Below.after' HB0.out hb1 (Nat.le_refl _))
    have HF1 := Lib.hid (few_any A1 c1 ss w1 ht1 (by omega))
    rw [HFS.out] at HF1
    clear hr1 ht1 hb1 HSo
    go_wp2_with fail
    refine HF1.out.mono ?_
    rintro ex w2 ⟨⟨s1, rfl, hs1⟩, ew⟩
    have ew := ew.symm
    subst ew
    obtain rfl : s1 = (sumL ss : Nat) := hs1 (by first | exact trivial | rfl)
    have HW := Lib.hid (wwrite_any A1 c1 ss w1 HT1.out (by omega) (by omega))
    clear hs1 HF1
    go_wp2_with fail
    refine HW.out.mono ?_
    rintro ex w2 (⟨h, _⟩ | ⟨_, x, u, hxw, rfl, hr2, hb2⟩)
    · exact absurd HE.out h
    have hxl := words_len hxw
    obtain ⟨A2, c2, rfl, hba2, hA2⟩ := brow_at2 hr2
    have HA2 := Lib.hid hA2
    have HBA := Lib.hid hba2
    have HB2 := Lib.hid (Below.after' HB1.out hb2 (Nat.le_refl _))
    have HT2 := Lib.hid (HT1.out.grow hb2)
    have hrd := Lib.hid (words_back hxw HE.out (most := (sumL ss : Nat)) (Int.le_refl _) (by omega) q)
    have hls := Lib.hid (fun (h : sumL ss ≠ 0) => words_less hxw HE.out (most := (sumL ss : Nat) - 1) (by omega) (by omega) (by omega) [])
    clear hb2 hr2 hba2 hA2 hxw HW
    have k1 := Lib.hid ((Below.refl w2.heap.size w2).alloc (Nat.le_refl _) (.cells #[] 5))
    go_wp2_with (first | (at_builtin; refine wpList_appBy rfl _ _ _ rfl w2.heap.size _ [] x rfl (freshB (heap_alloc_new _ _) (Nat.le_refl _)) _ rfl (HBA.out.grow k1.out).src (by simp; omega) (by simp) ?_; intro v3 w3 hr3 hp3; have HR3 := Lib.hid hr3; have hb3 := (k1.out.trans (hp3.below (by simp) (fun k hk => by cases hk; simp))); have HB3 := Lib.hid (Below.after' HB2.out hb3 (Nat.le_refl _)); have HK3 := Lib.hid hb3; clear hr3 hp3 hb3) | (at_builtin; refine wpList_appBy rfl _ _ _ rfl w2.heap.size _ ([] ++ x) q rfl HR3.out _ rfl (HY.out.grow HB3.out).src (by simp; omega) HK3.out.size ?_; intro v4 w4 hr4 hp4; have HR4 := Lib.hid hr4; have HK4 := Lib.hid (HK3.out.trans (hop_base HR3.out hp4 (Nat.le_refl _) HK3.out.size)); clear hr4 hp4))
    have hr4 := HR4.out
    rw [List.nil_append] at hr4
    obtain ⟨A4, c4, rfl, hba4, hA4⟩ := brow_at2 hr4
    have HN := Lib.hid (cnew_any A4 c4 (x ++ q) w4 hba4 (by simp; omega) hA4)
    have HB4 := Lib.hid (Below.after' HB2.out HK4.out (Nat.le_refl _))
    have HBA4 := Lib.hid (HBA.out.grow HK4.out)
    have HT4 := Lib.hid (HT2.out.grow HK4.out)
    have hql : (x ++ q).length ≤ 100000 := by simp; omega
    clear hr4 hba4 hA4 HR4 HR3 HK3 HB3 HK4 k1 HBA
    refine HN.out.mono ?_
    rintro ex w5 ⟨b, A5, c5, rfl, hc5, hbn, hb5⟩
    have HB5 := Lib.hid (Below.after' HB4.out hb5 (Nat.le_refl _))
    have hwb := Lib.hid (Nat.le_trans HB4.out.size hbn)
    have HLB := Lib.hid hbn
    have HBA5 := Lib.hid (HBA4.out.grow hb5)
    have HT5 := Lib.hid (HT4.out.grow hb5)
    have HH5 := Lib.hid hb5
    have HRd := Lib.hid (wread_any hc5 (sumL ss : Nat) (by unfold I64; omega) hql)
    clear hc5 hb5 HN hbn
    go_wp2_with fail
    refine HRd.out.mono ?_
    rintro ex w6 ⟨u6, vs, m, e6, rfl, hr6, hc6, ho6, hg6⟩
    rw [List.drop_zero, hrd.out] at ho6
    obtain ⟨rfl, hvs, hm⟩ := ho6
    dsimp only at hm hvs
    subst hvs
    have hml : ((x ++ q).length - m : Nat) = q.length := by
      have h1 := congrArg List.length hm
      rw [List.length_drop] at h1
      omega
    have HML := Lib.hid hml
    have HB6 := Lib.hid (HB5.out.grown hg6 HB5.out.size (fun k hk => by cases hk; exact hwb.out))
    have hb46 : Below w4.heap.size w4 w6 := HH5.out.grown hg6 HH5.out.size (fun k hk => by cases hk; exact HLB.out)
    have HBA6 := Lib.hid (HBA4.out.grow hb46)
    have HT6 := Lib.hid (HT4.out.grow hb46)
    obtain ⟨A6, c6, rfl, ht6⟩ := hr6.reads
    have HSm := Lib.hid (wsame_any A6 A1 c6 c1 vs vs w6 ht6 HT6.out (by omega) (by omega))
    rw [decide_eq_true (rfl : vs = vs)] at HSm
    have HC6 := Lib.hid hc6
    clear hr6 hc6 ht6 hg6 hm hml hb46 HRd hrd HH5 HLB HBA5 HT5 HBA4 HT4
    go_wp2_with fail
    refine HSm.out.mono ?_
    rintro ex w7 ⟨rfl, hb7⟩
    have hc7 := HC6.out.grow hb7
    have HE7 := Lib.hid (cerr_any hc7)
    have HL7 := Lib.hid (cleft_any hc7)
    rw [HML.out] at HL7
    have HB7 := Lib.hid (Below.after' HB6.out hb7 (Nat.le_refl _))
    have HBA7 := Lib.hid (HBA6.out.grow hb7)
    clear hb7 hc7 HSm HC6 HML HB6 HBA6
    go_wp2_with fail
    refine HE7.out.mono ?_
    rintro ex w8 ⟨rfl, ew⟩
    have ew := ew.symm
    subst ew
    go_wp2_with fail
    refine HL7.out.mono ?_
    rintro ex w8 ⟨rfl, hb8⟩
    have HB8 := Lib.hid (Below.after' HB7.out hb8 (Nat.le_refl _))
    have HBA8 := Lib.hid (HBA7.out.grow hb8)
    have hqq : ((q.length : Int) != (q.length : Int)) = false := by simp
    have p5 : decide (((sumL vs : Nat) : Int) + 10 * (vs.length : Int) + 20 < (x.length : Int)) = false := decide_eq_false (by omega)
    have p6 : decide (sumL vs + 10 * vs.length + 20 < x.length) = false := decide_eq_false (by omega)
    clear hb8 HE7 HL7 HB7 HBA7
    by_cases hz : sumL vs = 0
    · have p7 : (((sumL vs : Nat) : Int) == 0) = true := by rw [hz]; rfl
      clear hz
      go_wp2_with fail
      go_ret
      exact ⟨rfl, HB8.out⟩
    · have p7 : (((sumL vs : Nat) : Int) == 0) = false := by simp; omega
      have hlx := hls.out hz
      rw [List.append_nil] at hlx
      have HLX := Lib.hid hlx
      have HN2 := Lib.hid (cnew_any A2 c2 x w8 HBA8.out (by omega) HA2.out)
      clear hlx
      go_wp2_with fail
      refine HN2.out.mono ?_
      rintro ex w9 ⟨b9, A9, c9, rfl, hc9, hbn9, hb9⟩
      have HB9 := Lib.hid (Below.after' HB8.out hb9 (Nat.le_refl _))
      have hwb9 := Lib.hid (Nat.le_trans HB8.out.size hbn9)
      have HRd9 := Lib.hid (wread_any hc9 ((sumL vs : Nat) - 1) (by unfold I64; omega) (by omega))
      clear hc9 hb9 HN2 hbn9
      go_wp2_with fail
      refine HRd9.out.mono ?_
      rintro ex w10 ⟨u10, vs10, m10, e10, rfl, hr10, hc10, ho10, hg10⟩
      rw [List.drop_zero, HLX.out] at ho10
      obtain ⟨rfl, _, rfl⟩ := ho10
      obtain ⟨A10, c10, rfl, _⟩ := hr10.reads
      have HE10 := Lib.hid (cerr_any hc10)
      have HB10 := Lib.hid (HB9.out.grown hg10 HB9.out.size (fun k hk => by cases hk; exact hwb9.out))
      clear hr10 hc10 hg10 HRd9
      go_wp2_with fail
      refine HE10.out.mono ?_
      rintro ex w11 ⟨rfl, ew⟩
      have ew := ew.symm
      subst ew
      go_wp2_with fail
      go_ret
      exact ⟨rfl, HB10.out⟩
end Go.Proofs.Ytbdkoagagcemcaa

/- What is read rises, and has the room that was told: and the walk of WordsTell. -/
namespace Go.Proofs.Ytbdkoagagcemcaa
open Go.RowKit Pp

theorem wgo_facts (most : Int) : ∀ (ns ms : List Int) (f : Bool) (W : List UInt8) (S : Int) (r : List UInt8) (l : List (List UInt8)) (r' : List UInt8), wGo most f W S ns ms r = .ok (l, r') → S ≤ most →
    (f = false → risesL (W :: l)) ∧ risesL l ∧ S + (sumL l : Nat) ≤ most ∧ l.length ≤ ns.length ∧ ∀ s ∈ l, s.length ≤ W.length + r.length
  | [], ms, f, W, S, r, l, r', h, hS => by
    unfold wGo at h
    cases h
    exact ⟨fun _ => trivial, trivial, by simpa [sumL] using hS, Nat.le_refl _, fun s hs => by cases hs⟩
  | n :: ns, [], f, W, S, r, l, r', h, hS => by
    unfold wGo at h
    cases h
    exact ⟨fun _ => trivial, trivial, by simpa [sumL] using hS, Nat.zero_le _, fun s hs => by cases hs⟩
  | n :: ns, m :: ms, f, W, S, r, l, r', h, hS => by
    unfold wGo at h
    split at h
    · cases h
    · rename_i h1
      split at h
      · cases h
      · rename_i h2
        split at h
        · cases h
        · rename_i h3
          split at h
          · cases h
          · rename_i h4
            cases hg : wGo most false (W.take n.toNat ++ r.take m.toNat) (S + (n + m)) ns ms (r.drop m.toNat) with
            | error e => rw [hg] at h; cases h
            | ok q =>
              obtain ⟨l2, r2⟩ := q
              rw [hg] at h
              cases h
              obtain ⟨a1, a2, a3, a4, a5⟩ := wgo_facts most ns ms false _ _ _ _ _ hg (by omega)
              have hlen : (W.take n.toNat ++ r.take m.toNat).length = n.toNat + m.toNat := by
                rw [List.length_append, List.length_take, List.length_take]
                omega
              have hs : sumL ((W.take n.toNat ++ r.take m.toNat) :: l2) = (n.toNat + m.toNat) + sumL l2 := by
                rw [← hlen]
                simp [sumL]
              have hdl : (r.drop m.toNat).length = r.length - m.toNat := List.length_drop
              rw [hlen, hdl] at a5
              refine ⟨fun hf => ⟨Classical.not_not.1 fun hn => h4 ⟨hf, hn⟩, a1 rfl⟩, a1 rfl, by rw [hs]; omega, by simp only [List.length_cons]; omega, fun s hs => ?_⟩
              rcases List.mem_cons.1 hs with rfl | hs
              · rw [hlen]; omega
              · have := a5 s hs; omega
/-- What is read of few bytes. -/
theorem wordsR_facts {most : Int} {r r' : List UInt8} {l : List (List UInt8)} (h : wordsR most r = .ok (l, r')) : ¬ (most < 0 ∨ 16777216 < most) ∧ risesL l ∧ (sumL l : Int) ≤ most ∧ l.length ≤ r.length ∧ ∀ s ∈ l, s.length ≤ r.length := by
  unfold wordsR at h
  split at h
  · cases h
  · rename_i hm
    cases g1 : bandR 1 r with
    | error e => rw [g1] at h; cases h
    | ok p1 =>
      obtain ⟨k, r0⟩ := p1
      rw [g1] at h
      dsimp only at h
      cases g2 : bandN (k.getD 0 0) r0 with
      | error e => rw [g2] at h; cases h
      | ok p2 =>
        obtain ⟨ns, r1⟩ := p2
        rw [g2] at h
        dsimp only at h
        cases g3 : bandN (k.getD 0 0) r1 with
        | error e => rw [g3] at h; cases h
        | ok p3 =>
          obtain ⟨ms, r2⟩ := p3
          rw [g3] at h
          dsimp only at h
          obtain ⟨_, a2, a3, a4, a5⟩ := wgo_facts most ns ms true [] 0 r2 l r' h (by omega)
          obtain ⟨_, j1, _, _, b1⟩ := bandR_facts g1
          have o2 : Outc (bandN (k.getD 0 0) r0) [] ns 0 r1 := outc_ok g2
          have o3 : Outc (bandN (k.getD 0 0) r1) [] ms 0 r2 := outc_ok g3
          obtain ⟨_, _, _, c2, _⟩ := outc_band o2
          have d0 : r0.length ≤ r.length := by
            have h9 : r0 = r.drop j1 := b1
            rw [h9, List.length_drop]; omega
          have d1 : r1.length ≤ r0.length := by
            unfold bandN at g2
            split at g2
            · cases g2
            · obtain ⟨_, j, _, _, b2⟩ := bandR_facts g2
              have h9 : r1 = r0.drop j := b2
              rw [h9, List.length_drop]; omega
          have d2 : r2.length ≤ r1.length := by
            unfold bandN at g3
            split at g3
            · cases g3
            · obtain ⟨_, j, _, _, b2⟩ := bandR_facts g3
              have h9 : r2 = r1.drop j := b2
              rw [h9, List.length_drop]; omega
          refine ⟨hm, a2, by omega, by omega, fun s hs => ?_⟩
          have := a5 s hs
          simp only [List.length_nil] at this
          omega
theorem sumL_bound {l : List (List UInt8)} {n : Nat} (h : ∀ s ∈ l, s.length ≤ n) : sumL l ≤ n * l.length := by
  induction l with
  | nil => simp [sumL]
  | cons a l ih =>
    have h1 := ih (fun s hs => h s (List.mem_cons_of_mem _ hs))
    have h2 := h a (by simp)
    have hs : sumL (a :: l) = a.length + sumL l := by simp [sumL]
    rw [hs, List.length_cons, Nat.mul_succ]
    omega
theorem rises_at {l : List (List UInt8)} (h : risesL l) {j : Nat} {p s : List UInt8} (hp : l[j]? = some p) (hs : l[j + 1]? = some s) : p < s :=
  ((rises_take_succ hs).1 (rises_take_of h _)).2 j p rfl hp
set_option maxHeartbeats 8000000 in
set_option maxRecDepth 100000 in
theorem wordstell_law (A : Option Addr) (c : Nat) (l : List UInt8) (most : Int) (w : World) (hx : BAt w A c l) (hA : A = none → c = 0) (hn : I64 most) :
    Calls Try.prog 7 #[.slice A l.length c, .int .i64 most] w fun e w' => e = .returned (.bool true) ∧ Below w.heap.size w w' := by
  have HX := Lib.hid hx
  have HA := Lib.hid hA
  have HN := Lib.hid hn
  unfold I64 at hn
  clear hx hA
  go_enter Try.func7, Try.ntmps7
  go_wp2_with fail
  refine (wfixed_any w).mono ?_
  rintro ex w0 ⟨rfl, hb0⟩
  have HB0 := Lib.hid hb0
  clear hb0
  by_cases hq : 300 < l.length
  · have p3 : decide ((300 : Int) < (l.length : Int)) = true := decide_eq_true (by omega)
    have p4 : decide (300 < l.length) = true := decide_eq_true hq
    go_wp2_with fail
    go_ret
    exact ⟨rfl, HB0.out⟩
  have p3 : decide ((300 : Int) < (l.length : Int)) = false := decide_eq_false (by omega)
  have p4 : decide (300 < l.length) = false := decide_eq_false hq
  have HNw := Lib.hid (cnew_any A c l w0 (HX.out.grow HB0.out) (by omega) HA.out)
  go_wp2_with fail
  refine HNw.out.mono ?_
  rintro ex w1 ⟨b, A1, c1, rfl, hc1, hbn, hb1⟩
  have HB1 := Lib.hid (Below.after' HB0.out hb1 (Nat.le_refl _))
  have hwb := Lib.hid (Nat.le_trans HB0.out.size hbn)
  have HRd := Lib.hid (wread_any hc1 most HN.out (by omega))
  clear hc1 hbn hb1 HNw
  go_wp2_with fail
  refine HRd.out.mono ?_
  rintro ex w2 ⟨u2, vs, m, e2, rfl, hr2, hc2, ho2, hg2⟩
  rw [List.drop_zero] at ho2
  obtain ⟨A2, c2, rfl, ht2⟩ := hr2.reads
  have HB2 := Lib.hid (HB1.out.grown hg2 HB1.out.size (fun k hk => by cases hk; exact hwb.out))
  have HE2 := Lib.hid (cerr_any hc2)
  have HT2 := Lib.hid ht2
  have HO2 := Lib.hid ho2
  clear hr2 hc2 hg2 ht2 ho2 HRd
  by_cases hr : most < 0 ∨ 16777216 < most
  · have ho := HO2.out
    rw [words_most hr] at ho
    obtain ⟨rfl, _, rfl⟩ := ho
    have hcase : decide (most < 0) = true ∨ (decide (most < 0) = false ∧ decide (16777216 < most) = true) := by
      rcases hr with h | h
      · exact .inl (decide_eq_true h)
      · exact .inr ⟨decide_eq_false (by omega), decide_eq_true h⟩
    clear hr
    rcases hcase with q1 | ⟨q1, q2⟩
    all_goals
      go_wp2_with fail
      refine HE2.out.mono ?_
      rintro ex w3 ⟨rfl, ew⟩
      have ew := ew.symm
      subst ew
      go_wp2_with fail
      go_ret
      exact ⟨rfl, HB2.out⟩
  · have q1 : decide (most < 0) = false := decide_eq_false (by omega)
    have q2 : decide (16777216 < most) = false := decide_eq_false (by omega)
    have hm0 : 0 ≤ most := by omega
    have hm1 : most ≤ 16777216 := by omega
    clear hr
    by_cases he : e2 = 0
    rotate_left
    · have q3 : (e2 != 0) = true := by simpa using he
      obtain ⟨_, rfl⟩ := outc_err HO2.out he
      clear he
      go_wp2_with fail
      refine HE2.out.mono ?_
      rintro ex w3 ⟨rfl, ew⟩
      have ew := ew.symm
      subst ew
      go_wp2_with fail
      go_ret
      exact ⟨rfl, HB2.out⟩
    · subst he
      have hok : wordsR most l = .ok (vs, l.drop m) := by
        have ho := HO2.out
        cases hr : wordsR most l with
        | error e => rw [hr] at ho; exact absurd ho.1.symm ho.2.1
        | ok q => rw [hr] at ho; obtain ⟨_, h1, h2⟩ := ho; rw [h1, h2]
      obtain ⟨_, hris, hsum, hvl, hvs⟩ := wordsR_facts hok
      have hsb := sumL_bound (fun s hs => Nat.le_trans (hvs s hs) (by omega : l.length ≤ 300))
      have hvl3 : vs.length ≤ 300 := by omega
      have hsb2 : sumL vs ≤ 90000 := Nat.le_trans hsb (by omega)
      have HRI := Lib.hid hris
      have hwe : wordsE vs = 0 := by
        unfold wordsE
        rw [if_neg (by omega), if_neg (fun h => h hris), if_neg (by omega)]
      have HWE := Lib.hid hwe
      have HW := Lib.hid (wwrite_any A2 c2 vs w2 HT2.out (by omega) (by omega))
      clear hok hvs hsb hris hwe HO2 hvl
      go_wp2_with fail
      refine HE2.out.mono ?_
      rintro ex w3 ⟨rfl, ew⟩
      have ew := ew.symm
      subst ew
      go_wp2_with fail
      go_loop [7, 45] (fun s t => ∃ i : Nat, i ≤ vs.length ∧ t = .int .i64 i ∧ s = .int .i64 (sumL (vs.take i) : Nat)) (fun _ t => vs.length - (intOf t).toNat)
      case atStart => exact ⟨0, Nat.zero_le _, rfl, by simp [sumL]⟩
      case round =>
        obtain ⟨i, hi, rfl, rfl⟩ := hrel
        have hst := sumL_take_le vs i
        by_cases h1 : i < vs.length
        · obtain ⟨g, o, s, rfl, hg, hsi, hct⟩ := HT2.out.at_ h1
          have hsm := sumL_mem hsi
          have hsz := bs_size s
          have p5 : decide ((i : Int) < (vs.length : Int)) = true := decide_eq_true (by omega)
          have hsucc := Lib.hid (sumL_take_succ hsi)
          by_cases h0 : i = 0
          · have q5 : decide ((0 : Int) < (i : Int)) = false := decide_eq_false (by omega)
            have q6 : decide (0 < i) = false := decide_eq_false (by omega)
            generalize hS0 : sumL (vs.take i) = S0 at *
            clear hS0 hsi h0
            go_wp2_with fail
            go_round
            case rel => exact ⟨i + 1, by omega, by go_num, by rw [hsucc.out]; go_num⟩
            case measure => simp [intOf]; omega
          · obtain ⟨j, hj⟩ : ∃ j, i = j + 1 := ⟨i - 1, by omega⟩
            have q5 : decide ((0 : Int) < (i : Int)) = true := decide_eq_true (by omega)
            have q6 : decide (0 < i) = true := decide_eq_true (by omega)
            obtain ⟨p, hp⟩ : ∃ p, vs[j]? = some p := ⟨_, List.getElem?_eq_getElem (by omega)⟩
            have hcp : w2.cell? ⟨g, o + j, none⟩ = some (.string (bs p)) := by
              obtain ⟨g', o', e', _, hc'⟩ := HT2.out.2 (by omega)
              cases e'
              exact hc' j p hp
            have ej : (i : Int) - 1 = (j : Int) := by omega
            have hjl : j < vs.length := by omega
            have hle := wd_less p s
            rw [decide_eq_true (rises_at HRI.out hp (by rw [← hj]; exact hsi))] at hle
            generalize hS0 : sumL (vs.take i) = S0 at *
            clear hS0 hsi hp hj h0
            go_wp2_with fail
            go_round
            case rel => exact ⟨i + 1, by omega, by go_num, by rw [hsucc.out]; go_num⟩
            case measure => simp [intOf]; omega
        · have hii : i = vs.length := by omega
          subst hii
          have ht : vs.take vs.length = vs := List.take_length
          rw [ht]
          have p5 : decide ((vs.length : Int) < (vs.length : Int)) = false := decide_eq_false (by omega)
          clear hst ht hi h1
          go_wp2_with fail
          refine HW.out.mono ?_
          rintro ex w3 (⟨h, _⟩ | ⟨_, x, u, hxw, rfl, hr3, hb3⟩)
          · exact absurd HWE.out h
          have hxl := words_len hxw
          obtain ⟨A3, c3, rfl, hba3, hA3⟩ := brow_at2 hr3
          have hrd := words_back hxw HWE.out hsum hm1 []
          rw [List.append_nil] at hrd
          have HRB := Lib.hid hrd
          have HB3 := Lib.hid (Below.after' HB2.out hb3 (Nat.le_refl _))
          have HT3 := Lib.hid (HT2.out.grow hb3)
          have HN3 := Lib.hid (cnew_any A3 c3 x w3 hba3 (by omega) hA3)
          clear hxw hr3 hb3 hba3 hA3 hrd HW
          go_wp2_with fail
          refine HN3.out.mono ?_
          rintro ex w4 ⟨b4, A4, c4, rfl, hc4, hbn4, hb4⟩
          have HB4 := Lib.hid (Below.after' HB3.out hb4 (Nat.le_refl _))
          have hwb4 := Lib.hid (Nat.le_trans HB3.out.size hbn4)
          have HLB := Lib.hid hbn4
          have HH4 := Lib.hid hb4
          have HRd4 := Lib.hid (wread_any hc4 most HN.out (by omega))
          have q7 : decide (((sumL vs : Nat) : Int) ≤ most) = true := decide_eq_true hsum
          clear hc4 hbn4 hb4 HN3
          go_wp2_with fail
          refine HRd4.out.mono ?_
          rintro ex w5 ⟨u5, vs5, m5, e5, rfl, hr5, hc5, ho5, hg5⟩
          rw [List.drop_zero, HRB.out] at ho5
          obtain ⟨_, hv5, _⟩ := ho5
          dsimp only at hv5
          subst hv5
          obtain ⟨A5, c5, rfl, ht5⟩ := hr5.reads
          have HB5 := Lib.hid (HB4.out.grown hg5 HB4.out.size (fun k hk => by cases hk; exact hwb4.out))
          have hb35 : Below w3.heap.size w3 w5 := HH4.out.grown hg5 HH4.out.size (fun k hk => by cases hk; exact HLB.out)
          have HSm := Lib.hid (wsame_any A5 A2 c5 c2 vs5 vs5 w5 ht5 (HT3.out.grow hb35) (by omega) (by omega))
          rw [decide_eq_true (rfl : vs5 = vs5)] at HSm
          clear hr5 hc5 ht5 hg5 hb35 HRd4
          go_wp2_with fail
          refine HSm.out.mono ?_
          rintro ex w6 ⟨rfl, hb6⟩
          have HB6 := Lib.hid (Below.after' HB5.out hb6 (Nat.le_refl _))
          clear hb6 HSm
          go_wp2_with fail
          go_ret
          exact ⟨rfl, HB6.out⟩
end Go.Proofs.Ytbdkoagagcemcaa

/- What came in: a row of ints, a row of bytes. -/
namespace Go.Proofs.Ytbdkoagagcemcaa
open Go.ChangeShapes Go.WideShapes Go.ChangeAt Go.RowKit

theorem cellsInt : Try.prog.cellsOf 3 = 1 := by kernel_rfl
theorem laidOutP : laidOutB Try.prog = true := by kernel_rfl
set_option maxRecDepth 100000 in
theorem view {H : Type} {enc : TypeId × Value → H} {W : World} {base : Nat} {v : Value} {d : DataW H} {p : List MemPlace} (hv : Value.okWide Try.prog W .any base 22 v) (h : DataW.Trod enc Try.prog W 0 (fun _ => true) true 22 v d p) :
    ∃ A c Z, v = .slice A (List.length Z) c ∧ Ints W A c Z ∧ ∀ x ∈ Z, I64 x := by
  obtain ⟨a0, len, cap, rfl⟩ := okWide_slice Try.underlying22 hv
  obtain ⟨fuel, hf⟩ := h
  rcases open_ints Try.underlying22 Try.underlying3 cellsInt hf with ⟨hcs, hx⟩ | ⟨a, len', cap', zs, hcs, _, hl, hm, hz, hx, hcell, hwz⟩
  · simp [Value.cells] at hcs
    obtain ⟨rfl, rfl, rfl⟩ := hcs
    exact ⟨none, 0, [], rfl, Ints.nil _ _ _, fun x hx => by simp at hx⟩
  · simp [Value.cells] at hcs
    obtain ⟨rfl, rfl, rfl⟩ := hcs
    simp only [if_true] at hz
    have hlen : (zs.take len).length = len := by rw [List.length_take]; omega
    refine ⟨some a, cap, zs.take len, by rw [hlen], ⟨by rw [hlen]; exact hl, fun hp => ?_⟩, fun x hx => bounds_i64 (hwz x (List.mem_of_mem_take hx))⟩
    rw [hlen] at hp
    obtain ⟨g, o, s⟩ := a
    have h0 := hcell 0 (by omega)
    have hs : s = none := by simpa [Addr.add] using World.cell?_spot h0
    subst hs
    refine ⟨g, o, rfl, by simpa [Addr.add] using World.block_lt_of_cell? W _ h0, fun j x hx => ?_⟩
    obtain ⟨h1, h2⟩ := List.getElem?_eq_some_iff.1 hx
    have hj : j < zs.length := by rw [hlen] at h1; omega
    have h3 := hcell j hj
    have e : Addr.add ⟨g, o, none⟩ j = ⟨g, o + j, none⟩ := by unfold Addr.add; split <;> simp_all
    rw [e] at h3
    rw [h3]
    have e2 : zs.getD j 0 = x := by rw [← h2]; simp [List.getD, hj]
    rw [e2]
theorem cellsByte : Try.prog.cellsOf 5 = 1 := by kernel_rfl
set_option maxRecDepth 100000 in
theorem viewB {H : Type} {enc : TypeId × Value → H} {W : World} {base : Nat} {v : Value} {d : DataW H} {p : List MemPlace} (hv : Value.okWide Try.prog W .any base 23 v) (h : DataW.Trod enc Try.prog W 0 (fun _ => true) true 23 v d p) :
    ∃ A c l, v = .slice A (List.length l) c ∧ BAt W A c l ∧ (A = none → c = 0) := by
  obtain ⟨a0, len, cap, rfl⟩ := okWide_slice Try.underlying23 hv
  obtain ⟨fuel, hf⟩ := h
  rcases open_ints Try.underlying23 Try.underlying5 cellsByte hf with ⟨hcs, hx⟩ | ⟨a, len', cap', zs, hcs, _, hl, hm, hz, hx, hcell, hwz⟩
  · simp [Value.cells] at hcs
    obtain ⟨rfl, rfl, rfl⟩ := hcs
    exact ⟨none, 0, [], rfl, ⟨Nat.le_refl _, fun h => by simp at h⟩, fun _ => rfl⟩
  · simp [Value.cells] at hcs
    obtain ⟨rfl, rfl, rfl⟩ := hcs
    simp only [if_true] at hz
    have hlen : ((zs.take len).map fun n => UInt8.ofNat n.toNat).length = len := by simp; omega
    refine ⟨some a, cap, (zs.take len).map fun n => UInt8.ofNat n.toNat, by rw [hlen], ⟨by rw [hlen]; exact hl, fun hp => ?_⟩, fun e => by cases e⟩
    rw [hlen] at hp
    obtain ⟨g, o, s⟩ := a
    have h0 := hcell 0 (by omega)
    have hs : s = none := by simpa [Addr.add] using World.cell?_spot h0
    subst hs
    refine ⟨g, o, rfl, by simpa [Addr.add] using World.block_lt_of_cell? W _ h0, fun j x hx => ?_⟩
    obtain ⟨h1, h2⟩ := List.getElem?_eq_some_iff.1 hx
    have hj : j < zs.length := by rw [hlen] at h1; omega
    have h3 := hcell j hj
    rw [Addr.add_lit] at h3
    rw [h3]
    have hb := range_u8 hwz j
    simp only [List.getElem_map, List.getElem_take] at h2
    have e : zs.getD j 0 = zs[j]'hj := by simp [List.getD, List.getElem?_eq_getElem hj]
    have e' : zs[j]?.getD 0 = zs[j]'hj := by simp [List.getElem?_eq_getElem hj]
    rw [e'] at hb
    rw [e]
    rw [← h2]
    congr 2
    simp only [UInt8.toNat_ofNat']
    omega
end Go.Proofs.Ytbdkoagagcemcaa

/- Of any bytes and any number the call of WordsTell returns true; the arguments read as they did. No condition. -/
namespace Go.Proofs.Ytbdkoagagcemcaa.wtell
open Go.ChangeShapes Go.WideShapes Go.ChangeAt Go.RowKit

theorem own : ownKnob Try.prog.godebug = none := by kernel_rfl

set_option maxRecDepth 100000 in
theorem lifted (os : Os) (started : os.Started) (H : Type) (enc : TypeId × Value → H) :
    ReturnsInHanded {} Try.checked os 7 .any (Rows.wordsTellSpec.pre6 enc Try.prog Try.f7 Rows.wordsTellRow.domain false) (Rows.wordsTellSpec.post enc Try.prog Try.f7 false true false false) := by
  refine returnsInHanded_of_change (C := Try.checked) own started (by kernel_rfl) Try.func7
    (ChangeSpec.witness6 (enc := enc) (C := Try.checked) false ⟨#[], #[.slice none 0 0, .int .i64 0], []⟩ 8 (by kernel_rfl) (by kernel_rfl) (by kernel_rfl) (by kernel_rfl)) ?_
  intro W base args ds gs before hval0 hW _ _
  have hval : ∀ (j : Nat) t v, Try.f7.params[j]? = some t → args[j]? = some v → Value.okWide Try.prog W .any base t v := hval0
  have hW' := hW
  obtain ⟨p, q, hA0, hV, rfl, _, _⟩ := hW
  have hA : DataW.TrodAll enc Try.prog W 0 (fun _ => true) true Try.f7.params.toList args.toList ds p := hA0
  rw [Try.params7] at hA hval
  obtain ⟨v0, vs0, d0, ds0, p0, q0, hargs0, rfl, rfl, h0, r0⟩ := trodAll_cons hA
  obtain ⟨v1, vs1, d1, ds1, p1, q1, rfl, rfl, rfl, h1, r1⟩ := trodAll_cons r0
  obtain ⟨rfl, rfl, rfl⟩ := trodAll_nil r1
  obtain rfl : args = #[v0, v1] := by cases args; simp_all
  obtain ⟨rfl, rfl⟩ := trodVars_none hV
  obtain ⟨A0, c0, Z0, rfl, hx0, hA0'⟩ := viewB (hval 0 23 v0 rfl rfl) h0
  obtain ⟨nn, rfl, rfl, rfl, wm⟩ := open_int Try.underlying3 (hval 1 3 v1 rfl rfl) h1
  clear hA0 hval0
  simp only [List.append_nil] at hW'
  have hlt : ∀ x ∈ p0, x.block < W.heap.size := fun x hx => by simpa using hW'.lt x hx
  refine (wordstell_law A0 c0 Z0 nn W hx0 hA0' (bounds_i64 wm)).mono fun e W' ⟨he, hb⟩ => ?_
  subst he
  refine ⟨_, rfl, _, _, _, [], p0 ++ ([] ++ []), [], hW', trodAll_cons_mk (shut_bool Try.underlying4 _) trodAll_mk0, ?_, rfl, hb.frame _, fun h => by cases h⟩
  exact trodAll_cons_mk (Below.trod laidOutP (by kernel_rfl) (of_decide_eq_true (by kernel_rfl)) h0 hb (fun x hx => hlt x hx)) (trodAll_cons_mk (shut_int Try.underlying3 wm) trodAll_mk0)

theorem said : Rows.WordsTellSaid :=
  OpenClaim.holds_of_wide 7 Try.f7 rfl rfl rfl rfl rfl rfl rfl ⟨rfl, rfl, rfl, rfl, rfl⟩ rfl rfl rfl rfl rfl (by kernel_rfl) Try.func7 (by kernel_rfl)
    (of_decide_eq_true (by kernel_rfl)) (by unfold Func.isWrapper; first | (rw [if_pos (by decide +kernel)]; kernel_rfl) | (rw [if_neg (by decide +kernel)]; exact ⟨rfl, rfl⟩))
    (fun os started H enc _ => lifted os started H enc)
end Go.Proofs.Ytbdkoagagcemcaa.wtell

/- The walk of WordsSort. -/
namespace Go.Proofs.Ytbdkoagagcemcaa
open Go.RowKit Pp

theorem any_succ {l : List (List UInt8)} {k : Nat} {y x : List UInt8} (h : l[k]? = some y) : decide (x ∈ l.take (k + 1)) = (decide (x ∈ l.take k) || decide (x = y)) := by
  obtain ⟨h1, rfl⟩ := List.getElem?_eq_some_iff.1 h
  rw [List.take_succ_eq_append_getElem h1, ← Bool.decide_or]
  simp only [List.mem_append, List.mem_singleton]
theorem words_code {l : List (List UInt8)} (h : fewW l = true) : wordsE l = if risesL l then 0 else 2 := by
  obtain ⟨_, h2, h3⟩ := fewW_facts h
  unfold wordsE
  rw [if_neg (by omega)]
  by_cases hr : risesL l
  · rw [if_neg (fun h => h hr), if_neg (by omega), if_pos hr]
  · rw [if_pos hr, if_neg hr]
theorem rises_get {l : List (List UInt8)} (h : Wo.Rises l) {j : Nat} {p s : List UInt8} (hp : l[j]? = some p) (hs : l[j + 1]? = some s) : p < s := rises_at (rises_pair h) hp hs
set_option maxHeartbeats 8000000 in
set_option maxRecDepth 100000 in
theorem wordssort_law (A : Option Addr) (c : Nat) (l : List (List UInt8)) (w : World) (hx : Txt w A c l) (hl : l.length ≤ 9223372036854775807) :
    Calls Try.prog 6 #[.slice A l.length c] w fun e w' => e = .returned (.bool true) ∧ Below w.heap.size w w' := by
  have HX := Lib.hid hx
  clear hx
  go_enter Try.func6, Try.ntmps6
  go_wp2_with fail
  refine (wfixed_any w).mono ?_
  rintro ex w0 ⟨rfl, hb0⟩
  have HB0 := Lib.hid hb0
  have HF := Lib.hid (few_any A c l w0 (HX.out.grow hb0) hl)
  clear hb0
  go_wp2_with fail
  refine HF.out.mono ?_
  rintro ex w00 ⟨⟨s0, rfl, _⟩, ew⟩
  have ew := ew.symm
  subst ew
  clear HF
  cases hfew : fewW l with
  | false =>
    go_wp2_with fail
    go_ret
    exact ⟨rfl, HB0.out⟩
  | true =>
    obtain ⟨_, hlen, hsum⟩ := fewW_facts hfew
    have HCD := Lib.hid (words_code hfew)
    have hsl := Wo.sort_len l
    have HSo := Lib.hid (wdsort_any A c l w0 (HX.out.grow HB0.out) (by omega))
    have HM := Lib.hid (Wo.sort_mem l)
    have HR := Lib.hid (Wo.sort_rises l)
    clear hfew hl
    generalize hS : Wo.sort l = ss at *
    clear hS
    go_wp2_with fail
    refine HSo.out.mono ?_
    rintro ex w1 ⟨v1, rfl, hr1, hb1⟩
    obtain ⟨A1, c1, rfl, ht1⟩ := hr1.reads
    have HT1 := Lib.hid ht1
    have HB1 := Lib.hid (Below.after' HB0.out hb1 (Nat.le_refl _))
    have HX1 := Lib.hid (HX.out.grow HB1.out)
    clear hr1 ht1 hb1 HSo HX HB0
    go_wp2_with fail
    go_loop [33] (fun t => ∃ i : Nat, i ≤ l.length ∧ t = .int .i64 i) (fun t => l.length - (intOf t).toNat)
    case atStart => exact ⟨0, Nat.zero_le _, rfl⟩
    case round =>
      obtain ⟨i, hi, rfl⟩ := hrel
      by_cases h1 : i < l.length
      · obtain ⟨g, o, x, rfl, hg, hxi, hct⟩ := HX1.out.at_ h1
        have p1 : decide ((i : Int) < (l.length : Int)) = true := decide_eq_true (by omega)
        have hin := Lib.hid ((HM.out x).2 (List.mem_of_getElem? hxi))
        clear hxi
        go_wp2_with fail
        go_loop [8, 39] (fun s t => ∃ k : Nat, k ≤ ss.length ∧ t = .int .i64 k ∧ s = .bool (decide (x ∈ ss.take k))) (fun _ t => ss.length - (intOf t).toNat)
        case atStart => exact ⟨0, Nat.zero_le _, rfl, by simp⟩
        case round =>
          obtain ⟨k, hk, rfl, rfl⟩ := hrel
          by_cases h2 : k < ss.length
          · obtain ⟨g2, o2, y, rfl, hg2, hyk, hcy⟩ := HT1.out.at_ h2
            have p2 : decide ((k : Int) < (ss.length : Int)) = true := decide_eq_true (by omega)
            have hsu := Lib.hid (any_succ (x := x) hyk)
            have heq := bs_beq x y
            clear hyk
            cases hd : decide (x ∈ ss.take k) with
            | true =>
              rw [hd] at hsu
              go_wp2_with fail
              go_round
              case rel => exact ⟨k + 1, by omega, by go_num, by rw [hsu.out]; rfl⟩
              case measure => simp [intOf]; omega
            | false =>
              rw [hd] at hsu
              by_cases hxy : x = y
              · rw [decide_eq_true hxy] at heq hsu
                clear hxy
                go_wp2_with fail
                go_round
                case rel => exact ⟨k + 1, by omega, by go_num, by rw [hsu.out]; rfl⟩
                case measure => simp [intOf]; omega
              · rw [decide_eq_false hxy] at heq hsu
                clear hxy
                go_wp2_with fail
                go_round
                case rel => exact ⟨k + 1, by omega, by go_num, by rw [hsu.out]; rfl⟩
                case measure => simp [intOf]; omega
          · have hkk : k = ss.length := by omega
            subst hkk
            have p2 : decide ((ss.length : Int) < (ss.length : Int)) = false := decide_eq_false (by omega)
            rw [List.take_length, decide_eq_true hin.out]
            clear hk h2
            go_wp2_with fail
            go_round
            case rel => exact ⟨i + 1, by omega, by go_num⟩
            case measure => simp [intOf]; omega
      · have hii : i = l.length := by omega
        subst hii
        have p1 : decide ((l.length : Int) < (l.length : Int)) = false := decide_eq_false (by omega)
        clear hi h1
        go_wp2_with fail
        go_loopw [11, 12] (fun s t wr => ∃ i : Nat, 1 ≤ i ∧ (i ≤ l.length ∨ i = 1) ∧ t = .int .i64 i ∧ s = .bool (decide (risesL (l.take i))) ∧ Below w1.heap.size w1 wr) (fun _ t _ => l.length - (intOf t).toNat)
        case atStart => exact ⟨1, Nat.le_refl _, .inr rfl, rfl, by cases l <;> simp [risesL], Below.refl _ _⟩
        case round =>
          obtain ⟨i, hi1, hi, rfl, rfl, hB⟩ := hrel
          have HB := Lib.hid hB
          by_cases h1 : i < l.length
          · obtain ⟨j, rfl⟩ : ∃ j, i = j + 1 := ⟨i - 1, by omega⟩
            obtain ⟨g, o, x, rfl, hg, hxi, hct⟩ := (HX1.out.grow hB).at_ h1
            obtain ⟨p, hp⟩ : ∃ p, l[j]? = some p := ⟨_, List.getElem?_eq_getElem (by omega)⟩
            have hcp : wr.cell? ⟨g, o + j, none⟩ = some (.string (bs p)) := by
              obtain ⟨g', o', e', _, hc'⟩ := (HX1.out.grow hB).2 (by omega)
              cases e'
              exact hc' j p hp
            have p1 : decide (((j + 1 : Nat) : Int) < (l.length : Int)) = true := decide_eq_true (by omega)
            have p1' : decide ((j : Int) + 1 < (l.length : Int)) = true := decide_eq_true (by omega)
            have ej : ((j + 1 : Nat) : Int) - 1 = (j : Int) := by omega
            have ej' : (j : Int) + 1 - 1 = (j : Int) := by omega
            have hjl : j < l.length := by omega
            have hst := Lib.hid (rises_take_succ hxi)
            have HP := Lib.hid hp
            have hle := wd_less p x
            have hri : risesL (l.take (j + 1 + 1)) ↔ risesL (l.take (j + 1)) ∧ p < x := by
              rw [hst.out]
              constructor
              · rintro ⟨a1, a2⟩; exact ⟨a1, a2 j p rfl hp⟩
              · rintro ⟨a1, a2⟩
                refine ⟨a1, fun j' p' e hp' => ?_⟩
                obtain rfl : j' = j := by omega
                rw [hp] at hp'
                cases hp'
                exact a2
            have HRI := Lib.hid hri
            clear hxi hp hri hB hi hi1
            have ecast : ((j + 1 : Nat) : Int) = (j : Int) + 1 := by omega
            by_cases hd : risesL (l.take (j + 1))
            · rw [decide_eq_true hd]
              by_cases hpx : p < x
              · rw [decide_eq_true hpx] at hle
                have hfin := Lib.hid (show decide (risesL (l.take (j + 1 + 1))) = true from decide_eq_true (HRI.out.2 ⟨hd, hpx⟩))
                clear hd hpx ecast
                go_wp2_with fail
                refine wp_region_grow (by kernel_rfl) (by kernel_rfl) ?_
                repeat (go_big_quiet_step (fail))
                refine wpQuiet_nil ?_
                intro g1
                obtain ⟨w1, hb1⟩ := g1
                have HB2 := Lib.hid (Below.after' HB.out hb1 (Nat.le_refl _))
                dsimp only
                clear hb1
                go_wp2_with fail
                go_roundw
                case rel => exact ⟨j + 1 + 1, by omega, .inl (by omega), by go_num, by rw [hfin.out], HB2.out⟩
                case measure => simp [intOf]; omega
              · rw [decide_eq_false hpx] at hle
                have hfin := Lib.hid (show decide (risesL (l.take (j + 1 + 1))) = false from decide_eq_false (fun h => hpx (HRI.out.1 h).2))
                clear hd hpx ecast
                go_wp2_with fail
                refine wp_region_grow (by kernel_rfl) (by kernel_rfl) ?_
                repeat (go_big_quiet_step (fail))
                refine wpQuiet_nil ?_
                intro g1
                obtain ⟨w1, hb1⟩ := g1
                have HB2 := Lib.hid (Below.after' HB.out hb1 (Nat.le_refl _))
                dsimp only
                clear hb1
                go_wp2_with fail
                go_roundw
                case rel => exact ⟨j + 1 + 1, by omega, .inl (by omega), by go_num, by rw [hfin.out], HB2.out⟩
                case measure => simp [intOf]; omega
            · rw [decide_eq_false hd]
              have hfin := Lib.hid (show decide (risesL (l.take (j + 1 + 1))) = false from decide_eq_false (fun h => hd (HRI.out.1 h).1))
              clear hd ecast
              go_wp2_with fail
              refine wp_region_grow (by kernel_rfl) (by kernel_rfl) ?_
              repeat (go_big_quiet_step (fail))
              refine wpQuiet_nil ?_
              intro g1
              obtain ⟨w1, hb1⟩ := g1
              have HB2 := Lib.hid (Below.after' HB.out hb1 (Nat.le_refl _))
              dsimp only
              clear hb1
              go_wp2_with fail
              go_roundw
              case rel => exact ⟨j + 1 + 1, by omega, .inl (by omega), by go_num, by rw [hfin.out], HB2.out⟩
              case measure => simp [intOf]; omega
          · have p1 : decide ((i : Int) < (l.length : Int)) = false := decide_eq_false (by omega)
            have p1' : decide (i < l.length) = false := decide_eq_false h1
            rw [List.take_of_length_le (by omega)]
            have HX2 := Lib.hid (HX1.out.grow hB)
            have HT2 := Lib.hid (HT1.out.grow hB)
            have HB2 := Lib.hid (Below.after' HB1.out hB (Nat.le_refl _))
            obtain ⟨rs, hrs⟩ : ∃ rs, rs = decide (risesL l) := ⟨_, rfl⟩
            have HRS := Lib.hid hrs
            rw [← hrs]
            clear hB hi h1 hrs
            go_wp2_with fail
            go_loop [74] (fun t => ∃ i : Nat, i ≤ ss.length ∧ t = .int .i64 i) (fun t => ss.length - (intOf t).toNat)
            case atStart => exact ⟨0, Nat.zero_le _, rfl⟩
            case round =>
              obtain ⟨i, hi, rfl⟩ := hrel
              by_cases h1 : i < ss.length
              · obtain ⟨g, o, x, rfl, hg, hxi, hct⟩ := HT2.out.at_ h1
                have p2 : decide ((i : Int) < (ss.length : Int)) = true := decide_eq_true (by omega)
                have hin := Lib.hid ((HM.out x).1 (List.mem_of_getElem? hxi))
                have HXI := Lib.hid hxi
                clear hxi
                go_wp2_with fail
                go_loop [15, 81] (fun s t => ∃ k : Nat, k ≤ l.length ∧ t = .int .i64 k ∧ s = .bool (decide (x ∈ l.take k))) (fun _ t => l.length - (intOf t).toNat)
                case atStart => exact ⟨0, Nat.zero_le _, rfl, by simp⟩
                case round =>
                  obtain ⟨k, hk, rfl, rfl⟩ := hrel
                  by_cases h2 : k < l.length
                  · obtain ⟨g2, o2, y, rfl, hg2, hyk, hcy⟩ := HX2.out.at_ h2
                    have p3 : decide ((k : Int) < (l.length : Int)) = true := decide_eq_true (by omega)
                    have hsu := Lib.hid (any_succ (x := x) hyk)
                    have heq := bs_beq x y
                    clear hyk
                    cases hd : decide (x ∈ l.take k) with
                    | true =>
                      rw [hd] at hsu
                      go_wp2_with fail
                      go_round
                      case rel => exact ⟨k + 1, by omega, by go_num, by rw [hsu.out]; rfl⟩
                      case measure => simp [intOf]; omega
                    | false =>
                      rw [hd] at hsu
                      by_cases hxy : x = y
                      · rw [decide_eq_true hxy] at heq hsu
                        clear hxy
                        go_wp2_with fail
                        go_round
                        case rel => exact ⟨k + 1, by omega, by go_num, by rw [hsu.out]; rfl⟩
                        case measure => simp [intOf]; omega
                      · rw [decide_eq_false hxy] at heq hsu
                        clear hxy
                        go_wp2_with fail
                        go_round
                        case rel => exact ⟨k + 1, by omega, by go_num, by rw [hsu.out]; rfl⟩
                        case measure => simp [intOf]; omega
                  · have hkk : k = l.length := by omega
                    subst hkk
                    have p3 : decide ((l.length : Int) < (l.length : Int)) = false := decide_eq_false (by omega)
                    rw [List.take_length, decide_eq_true hin.out]
                    clear hk h2
                    by_cases h0 : i = 0
                    · have q5 : decide ((0 : Int) < (i : Int)) = false := decide_eq_false (by omega)
                      have q6 : decide (0 < i) = false := decide_eq_false (by omega)
                      go_wp2_with fail
                      go_round
                      case rel => exact ⟨i + 1, by omega, by go_num⟩
                      case measure => simp [intOf]; omega
                    · obtain ⟨j, rfl⟩ : ∃ j, i = j + 1 := ⟨i - 1, by omega⟩
                      have q5 : decide ((0 : Int) < ((j + 1 : Nat) : Int)) = true := decide_eq_true (by omega)
                      have q6 : decide (0 < j + 1) = true := decide_eq_true (by omega)
                      obtain ⟨p, hp⟩ : ∃ p, ss[j]? = some p := ⟨_, List.getElem?_eq_getElem (by omega)⟩
                      have hcp : wr.cell? ⟨g, o + j, none⟩ = some (.string (bs p)) := by
                        obtain ⟨g', o', e', _, hc'⟩ := HT2.out.2 (by omega)
                        cases e'
                        exact hc' j p hp
                      have ej : ((j + 1 : Nat) : Int) - 1 = (j : Int) := by omega
                      have ej' : (j : Int) + 1 - 1 = (j : Int) := by omega
                      have hjl : j < ss.length := by omega
                      have hle := wd_less p x
                      rw [decide_eq_true (rises_get HR.out hp HXI.out)] at hle
                      clear hp h0
                      go_wp2_with fail
                      go_round
                      case rel => exact ⟨j + 1 + 1, by omega, by go_num⟩
                      case measure => simp [intOf]; omega
              · have hii : i = ss.length := by omega
                subst hii
                have p2 : decide ((ss.length : Int) < (ss.length : Int)) = false := decide_eq_false (by omega)
                have HW := Lib.hid (wwrite_any A c l wr HX2.out (by omega) (by omega))
                clear hi h1
                go_wp2_with fail
                refine HW.out.mono ?_
                rintro ex w3 (⟨h, rfl, hb3⟩ | ⟨h, y, u, _, rfl, hr3, hb3⟩)
                · have hr : ¬ risesL l := fun h9 => h (by rw [HCD.out, if_pos h9])
                  have hcd := HCD.out
                  rw [if_neg hr] at hcd
                  have hrs := HRS.out
                  rw [decide_eq_false hr] at hrs
                  subst hrs
                  rw [hcd]
                  have HB3 := Lib.hid (Below.after' HB2.out hb3 (Nat.le_refl _))
                  clear hb3 h hr hcd
                  go_wp2_with fail
                  go_ret
                  exact ⟨rfl, HB3.out⟩
                · have hr : risesL l := by
                    have hcd := HCD.out
                    rw [h] at hcd
                    by_cases h9 : risesL l
                    · exact h9
                    · rw [if_neg h9] at hcd; exact absurd hcd (by decide)
                  have hrs := HRS.out
                  rw [decide_eq_true hr] at hrs
                  subst hrs
                  obtain ⟨A3, c3, rfl, _⟩ := hr3.at_
                  have HB3 := Lib.hid (Below.after' HB2.out hb3 (Nat.le_refl _))
                  clear hb3 h hr hr3
                  go_wp2_with fail
                  go_ret
                  exact ⟨rfl, HB3.out⟩
end Go.Proofs.Ytbdkoagagcemcaa

/- What came in: a row of texts. -/
namespace Go.Proofs.Ytbdkoagagcemcaa
open Go.ChangeShapes Go.WideShapes Go.ChangeAt Go.RowKit Go.Deep

theorem cellsStrS : Try.prog.cellsOf 9 = 1 := by kernel_rfl
set_option maxRecDepth 100000 in
theorem viewS {H : Type} {enc : TypeId × Value → H} {W : World} {base : Nat} {v : Value} {d : DataW H} {p : List MemPlace} (hv : Value.okWide Try.prog W .any base 47 v) (h : DataW.Trod enc Try.prog W 0 (fun _ => true) true 47 v d p) :
    ∃ A c l, v = .slice A (List.length l) c ∧ Txt W A c l ∧ l.length ≤ 9223372036854775807 := by
  obtain ⟨a0, len, cap, rfl⟩ := okWide_slice Try.underlying47 hv
  obtain ⟨fuel, hf⟩ := h
  rcases open_strs Try.underlying47 Try.underlying9 cellsStrS hf with ⟨hcs, hx⟩ | ⟨a, len', cap', m, Sx, hcs, _, hl, hm, hmm, hx, hcell⟩
  · simp [Value.cells] at hcs
    obtain ⟨rfl, rfl, rfl⟩ := hcs
    exact ⟨none, 0, [], rfl, Txt.nil _ _ _, by simp⟩
  · simp [Value.cells] at hcs
    obtain ⟨rfl, rfl, rfl⟩ := hcs
    have hlm : len ≤ m := by rw [hmm]; simp; exact hl
    have hll : ((List.range len).map fun i => (Sx i).data.toList).length = len := by simp
    refine ⟨some a, cap, (List.range len).map fun i => (Sx i).data.toList, by rw [hll], ⟨by rw [hll]; exact hl, fun hp => ?_⟩, by rw [hll]; have := hm; unfold maxLen at this; omega⟩
    rw [hll] at hp
    obtain ⟨g, o, s⟩ := a
    have h0 := (hcell 0 (by omega)).1
    have hs : s = none := by simpa [Addr.add] using World.cell?_spot h0
    subst hs
    refine ⟨g, o, rfl, by simpa [Addr.add] using World.block_lt_of_cell? W _ h0, fun j x hx => ?_⟩
    have hj : j < len := by have := (List.getElem?_eq_some_iff.1 hx).1; rwa [hll] at this
    have h3 := (hcell j (by omega)).1
    rw [Addr.add_lit] at h3
    rw [h3]
    simp [hj] at hx
    subst hx
    rfl
end Go.Proofs.Ytbdkoagagcemcaa

/- Of any texts the call of WordsSort returns true; the arguments read as they did. No condition. -/
namespace Go.Proofs.Ytbdkoagagcemcaa.wsort
open Go.ChangeShapes Go.WideShapes Go.ChangeAt Go.RowKit

theorem own : ownKnob Try.prog.godebug = none := by kernel_rfl

set_option maxRecDepth 100000 in
theorem lifted (os : Os) (started : os.Started) (H : Type) (enc : TypeId × Value → H) :
    ReturnsInHanded {} Try.checked os 6 .any (Rows.wordsSortSpec.pre6 enc Try.prog Try.f6 Rows.wordsSortRow.domain false) (Rows.wordsSortSpec.post enc Try.prog Try.f6 false true false false) := by
  refine returnsInHanded_of_change (C := Try.checked) own started (by kernel_rfl) Try.func6
    (ChangeSpec.witness6 (enc := enc) (C := Try.checked) false ⟨#[], #[.slice none 0 0], []⟩ 8 (by kernel_rfl) (by kernel_rfl) (by kernel_rfl) (by kernel_rfl)) ?_
  intro W base args ds gs before hval0 hW _ _
  have hval : ∀ (j : Nat) t v, Try.f6.params[j]? = some t → args[j]? = some v → Value.okWide Try.prog W .any base t v := hval0
  have hW' := hW
  obtain ⟨p, q, hA0, hV, rfl, _, _⟩ := hW
  have hA : DataW.TrodAll enc Try.prog W 0 (fun _ => true) true Try.f6.params.toList args.toList ds p := hA0
  rw [Try.params6] at hA hval
  obtain ⟨v0, vs0, d0, ds0, p0, q0, hargs0, rfl, rfl, h0, r0⟩ := trodAll_cons hA
  obtain ⟨rfl, rfl, rfl⟩ := trodAll_nil r0
  obtain rfl : args = #[v0] := by cases args; simp_all
  obtain ⟨rfl, rfl⟩ := trodVars_none hV
  obtain ⟨A0, c0, Z0, rfl, hx0, hI0⟩ := viewS (hval 0 47 v0 rfl rfl) h0
  clear hA0 hval0
  simp only [List.append_nil] at hW'
  have hlt : ∀ x ∈ p0, x.block < W.heap.size := fun x hx => by simpa using hW'.lt x hx
  refine (wordssort_law A0 c0 Z0 W hx0 hI0).mono fun e W' ⟨he, hb⟩ => ?_
  subst he
  refine ⟨_, rfl, _, _, _, [], p0 ++ [], [], hW', trodAll_cons_mk (shut_bool Try.underlying4 _) trodAll_mk0, ?_, rfl, hb.frame _, fun h => by cases h⟩
  exact trodAll_cons_mk (Below.trod laidOutP (by kernel_rfl) (of_decide_eq_true (by kernel_rfl)) h0 hb (fun x hx => hlt x hx)) trodAll_mk0

theorem said : Rows.WordsSortSaid :=
  OpenClaim.holds_of_wide 6 Try.f6 rfl rfl rfl rfl rfl rfl rfl ⟨rfl, rfl, rfl, rfl, rfl⟩ rfl rfl rfl rfl rfl (by kernel_rfl) Try.func6 (by kernel_rfl)
    (of_decide_eq_true (by kernel_rfl)) (by unfold Func.isWrapper; first | (rw [if_pos (by decide +kernel)]; kernel_rfl) | (rw [if_neg (by decide +kernel)]; exact ⟨rfl, rfl⟩))
    (fun os started H enc _ => lifted os started H enc)
end Go.Proofs.Ytbdkoagagcemcaa.wsort
