/- Joined texts: WdD, WdF, WdG, WdH, WdI, Cl, Ce. -/
import Derived.Test.YtkdamaomhppkgaaGreatPk11
import Derived.Deep.DeepCutAuto
import Derived.LoopN
import Derived.Test.YtkdamaomhppkgaaGreatPk12
import Derived.BigQuiet
import Derived.Test.YtkdamaomhppkgaaGreatPk7
/- The walk of layer 27: texts are written. -/
namespace Go.Proofs.YtkdamaomhppkgaaGreat
open Go.RowKit Pp

/-- What the call comes to. -/
def WordsRes (l : List (List UInt8)) (w : World) (ex : Ending) (y : World) : Prop :=
  (wordsE l ≠ 0 ∧ ex = .returned (.tuple #[.slice none 0 0, .int .i64 (wordsE l)]) ∧ Below w.heap.size w y) ∨
  (wordsE l = 0 ∧ ∃ x u, wordsB l = some x ∧ ex = .returned (.tuple #[u, .int .i64 0]) ∧ BRow y w.heap.size 5 u x ∧ Below w.heap.size w y)
set_option maxHeartbeats 8000000 in
set_option maxRecDepth 100000 in
theorem wwrite_any (A : Option Addr) (c : Nat) (l : List (List UInt8)) (w : World) (hx : Txt w A c l) (hl : l.length ≤ 100000) (hs : sumL l ≤ 1000000000) :
    Calls Tryz.prog 28 #[.slice A l.length c] w (WordsRes l w) := by
  have HX := Lib.hid hx
  have HC := Lib.hid (wcheck_any A c l w hx (by omega) hs)
  clear hx
  by_cases h0 : wordsE l = 0
  rotate_left
  · have q : (wordsE l != 0) = true := by simp [h0]
    have hfin := Lib.hid h0
    clear h0
    go_enter Tryz.func28, Tryz.ntmps28
    go_wp2_with fail
    refine HC.out.mono ?_
    rintro ex w0 ⟨rfl, rfl⟩
    go_wp2_with fail
    go_ret2
    exact .inl ⟨hfin.out, rfl, Below.refl _ _⟩
  · obtain ⟨xa, xb, xc, ha, hb, hc, hall⟩ := words_some l hl hs
    have la : xa.length ≤ 6 := by simpa using bandW_len ha
    have lb := bandW_len hb
    have lc := bandW_len hc
    have ltl := wTail_len l []
    rw [wBegins_len] at lb
    rw [wMore_len] at lc
    have HE := Lib.hid h0
    have HALL := Lib.hid hall
    rw [h0] at HC
    have HFA := Lib.hid ha
    have HFB := Lib.hid hb
    have HFC := Lib.hid hc
    have hmk := run_make_row' (P := Tryz.prog) 72 3 (.int .i64 0) 8 Tryz.underlying72 infoInt rfl .i64 .i64 l.length (by omega) (by omega)
    clear h0 hall ha hb hc
    go_enter Tryz.func28, Tryz.ntmps28
    go_wp2_with fail
    refine HC.out.mono ?_
    rintro ex w0 ⟨rfl, rfl⟩
    clear HC
    go_upto_region 4 with fail
    go_cut [5, 6] (fun s5 s6 wx => ∃ g1 g2, s5 = .slice (some ⟨g1, 0, none⟩) l.length l.length ∧ s6 = .slice (some ⟨g2, 0, none⟩) l.length l.length ∧ g1 ≠ g2 ∧ w0.heap.size ≤ g1 ∧ w0.heap.size ≤ g2 ∧ wx.rowIs g1 3 l.length (fun _ => .int .i64 0) ∧ wx.rowIs g2 3 l.length (fun _ => .int .i64 0) ∧ Below w0.heap.size w0 wx)
    case first =>
      have a1 := Below.refl w0.heap.size w0
      have a2 := a1.alloc (Nat.le_refl _) (.cells (madeCells #[.int .i64 0] l.length) 3)
      have a3 := a2.alloc (by simp) (.cells (madeCells #[.int .i64 0] l.length) 3)
      have r1 := World.rowIs_made w0 (.int .i64 0) l.length 3
      have r2 := World.rowIs_made (w0.alloc (.cells (madeCells #[.int .i64 0] l.length) 3)) (.int .i64 0) l.length 3
      have r3 := r1.alloc (.cells (madeCells #[.int .i64 0] l.length) 3)
      rw [show (w0.alloc (.cells (madeCells #[.int .i64 0] l.length) 3)).heap.size = w0.heap.size + 1 from by simp] at r2
      have A3 := Lib.hid a3
      have R2 := Lib.hid r2
      have R3 := Lib.hid r3
      clear a1 a2 a3 r1 r2 r3
      go_region
      all_goals
        go_wp2_with fail
        go_meet
        case rel => exact ⟨_, _, rfl, rfl, by omega, by omega, by omega, by first | exact R2.out.drew | exact R3.out.drew, by first | exact R2.out.drew | exact R3.out.drew, A3.out.drew⟩
    case rest =>
      obtain ⟨g1, g2, rfl, rfl, hne, hg1, hg2, hr1, hr2, hB0⟩ := hcut
      have hg1s := hr1.lt
      have hg2s := hr2.lt
      have HR1 := Lib.hid hr1
      have HR2 := Lib.hid hr2
      have HB0 := Lib.hid hB0
      clear hr1 hr2 hB0 hmk
      go_wp2_with fail
      go_loopw [7, 8, 29] (fun v s t wr => ∃ (i : Nat) (acc : List UInt8), i ≤ l.length ∧ t = .int .i64 i ∧ s = .string (bs (wPrev [] l i)) ∧ BRow wr wc.heap.size 5 v acc ∧ acc ++ wTail (wPrev [] l i) (l.drop i) = wTail [] l ∧ wr.rowIs g1 3 l.length (fun j => if j < i then .int .i64 ((wBegins [] l).getD j 0) else .int .i64 0) ∧ wr.rowIs g2 3 l.length (fun j => if j < i then .int .i64 ((wMore [] l).getD j 0) else .int .i64 0) ∧ wc.heap.size ≤ wr.heap.size ∧ Below w0.heap.size w0 wr) (fun _ _ t _ => l.length - (intOf t).toNat)
      case atStart => exact ⟨0, [], Nat.zero_le _, rfl, rfl, BRow.nil _ _ _, rfl, HR1.out.congr (fun j _ => by simp), HR2.out.congr (fun j _ => by simp), Nat.le_refl _, HB0.out⟩
      case round =>
        obtain ⟨i, acc, hi, rfl, rfl, hrow, hac, hr1, hr2, hws, hB⟩ := hrel
        have HO1 := Lib.hid hr1
        have HO2 := Lib.hid hr2
        have HR := Lib.hid hrow
        have HA := Lib.hid hac
        have HW := Lib.hid hB
        clear hr1 hr2 hrow hac hB HR1 HR2
        by_cases h1 : i < l.length
        · obtain ⟨g, o, s, rfl, hg, hsi, hct⟩ := (HX.out.grow HW.out).at_ h1
          have p1 : decide ((i : Int) < (l.length : Int)) = true := decide_eq_true (by omega)
          have hsm := sumL_mem hsi
          have HSI := Lib.hid hsi
          have hsz := bs_size s
          have hpl : (wPrev [] l i).length ≤ 1000000000 := by
            unfold wPrev
            split
            · simp
            · cases h9 : l[i - 1]? with
              | none => simp
              | some p => have := sumL_mem h9; simp; omega
          have HSh := Lib.hid (shared_any (wPrev [] l i) s wr hpl (by omega))
          have hge := wBegins_get (last := []) hsi
          have hme := wMore_get (last := []) hsi
          have HGE := Lib.hid (getD_of hge)
          have HME := Lib.hid (getD_of hme)
          have hta := HA.out
          rw [wTail_at hsi, ← List.append_assoc] at hta
          have HTA := Lib.hid hta
          have hpn := Lib.hid (wPrev_succ (last := []) hsi)
          have hsr := shared_le_r (wPrev [] l i) s
          have hal : acc.length ≤ 1000000000 := by
            have := congrArg List.length HA.out
            rw [List.length_append] at this
            omega
          clear hge hme hta hsi hpl
          generalize hP : wPrev [] l i = P at *
          generalize hK : shared P s = k at *
          clear hP hK
          go_wp2_with fail
          refine HSh.out.mono ?_
          rintro ex w5 ⟨rfl, hb5⟩
          have HW5 := Lib.hid (Below.after' HW.out hb5 (Nat.le_refl _))
          have HR5 := Lib.hid (HR.out.grow hb5)
          have q1 := rows_below HO1.out hb5
          have q2 := rows_below HO2.out hb5
          have hws5 := Lib.hid (Nat.le_trans hws hb5.size)
          have hc1 := q1.cell h1
          have hf1 := q1.frozen i
          rw [if_neg (Nat.lt_irrefl i)] at hc1
          have q1b := row_step q1 HGE.out
          have q2b := q2.setOther (a := ⟨g1, i, none⟩) (Ne.symm hne) (.int .i64 k)
          have hcb := q1b.cell h1
          rw [if_pos (Nat.lt_succ_self i), HGE.out] at hcb
          have hc2 := q2b.cell h1
          have hf2 := q2b.frozen i
          rw [if_neg (Nat.lt_irrefl i)] at hc2
          obtain ⟨d, hd⟩ : ∃ d, s.length - k = d := ⟨_, rfl⟩
          have em : (s.length : Int) - (k : Int) = (d : Int) := by omega
          rw [hd] at HME
          have HE2 := Lib.hid (q1b.setOther (a := ⟨g2, i, none⟩) hne (.int .i64 d))
          have HF2 := Lib.hid (row_step q2b HME.out)
          have HR6 := Lib.hid (brow_set (brow_set HR5.out hg1s i (.int .i64 k)) hg2s i (.int .i64 d))
          have HW6 := Lib.hid ((HW5.out.setCell (p := ⟨g1, i, none⟩) hg1 (.int .i64 k)).setCell (p := ⟨g2, i, none⟩) hg2 (.int .i64 d))
          have hcc : ((w5.setCell ⟨g1, i, none⟩ (.int .i64 k)).setCell ⟨g2, i, none⟩ (.int .i64 d)).cell? ⟨g1, i, none⟩ = some (.int .i64 k) := by
            have := HE2.out.cell h1
            rwa [if_pos (Nat.lt_succ_self i), HGE.out] at this
          clear q1 q2 q1b q2b HO1 HO2 HR hb5 HR5 HW5 hws HSh
          go_upto_region 12 with fail
          have hsl := fun w => wd_from s k hsr w
          have hdl : (s.drop k).length ≤ 1000000000 := by rw [List.length_drop]; omega
          have hbg := HW6.out.size
          generalize hQ : s.drop k = q at *
          clear hQ hsz hd em hsr hc1 hf1 hcb hc2 hf2
          go_wp2_with (at_builtin; refine wpList_appBy rfl _ _ _ rfl wc.heap.size _ acc q rfl HR6.out _ rfl (src_string (by kernel_rfl) q) (by omega) (by simp; exact hws5.out) ?_; intro v6 w6 hr6 hp6; have HR7 := Lib.hid hr6; have HP6 := Lib.hid hp6; clear hr6 hp6)
          have hbs := hop_base HR6.out HP6.out (Nat.le_refl _) (by simp; exact hws5.out)
          have HW7 := Lib.hid (HW6.out.trans (hbs.mono HB0.out.size))
          have hsz9 : wc.heap.size ≤ w6.heap.size := by have h9 := hbs.size; simp at h9; exact Nat.le_trans hws5.out h9
          have n1 := HE2.out.of_block (hbs.block g1 hg1s)
          have n2 := HF2.out.of_block (hbs.block g2 hg2s)
          go_roundw
          case rel => exact ⟨i + 1, acc ++ q, by omega, by go_num, by rw [hpn.out], HR7.out, by rw [hpn.out]; exact HTA.out, n1, n2, hsz9, HW7.out⟩
          case measure => simp [intOf]; omega
        · have hii : i = l.length := by omega
          subst hii
          have p1 : decide ((l.length : Int) < (l.length : Int)) = false := decide_eq_false (by omega)
          have hat := HA.out
          rw [List.drop_length, show wTail (wPrev [] l l.length) [] = [] from rfl, List.append_nil] at hat
          subst hat
          have I1 := Lib.hid (ints_full HO1.out (wBegins_len l []) (fun j hj => if_pos hj))
          have I2 := Lib.hid (ints_full HO2.out (wMore_len l []) (fun j hj => if_pos hj))
          clear HO1 HO2 HA
          obtain ⟨At, ct, rfl, hbt⟩ := HR.out.at_
          have HBt := Lib.hid hbt
          clear hbt
          go_wp2_with fail
          have e1 : Below wr.heap.size wr (wr.alloc (.cells #[.int .i64 l.length] 3)) := (Below.refl _ _).alloc (Nat.le_refl _) _
          have HI0 := Lib.hid (show Ints (wr.alloc (.cells #[.int .i64 l.length] 3)) (some ⟨wr.heap.size, 0, none⟩) 1 [(l.length : Int)] from ints_blk wr [(l.length : Int)] 3)
          generalize hV : wr.alloc (.cells #[.int .i64 l.length] 3) = V at *
          have e2 : Below V.heap.size V (V.alloc (.cells #[.slice (some ⟨wr.heap.size, 0, none⟩) 1 1, .slice (some ⟨g1, 0, none⟩) l.length l.length, .slice (some ⟨g2, 0, none⟩) l.length l.length] 72)) := (Below.refl _ _).alloc (Nat.le_refl _) _
          have hvs : V.heap.size = wr.heap.size + 1 := by rw [← hV]; simp
          have HBK := Lib.hid (heap_alloc_new V (.cells #[.slice (some ⟨wr.heap.size, 0, none⟩) 1 1, .slice (some ⟨g1, 0, none⟩) l.length l.length, .slice (some ⟨g2, 0, none⟩) l.length l.length] 72))
          have hW0s : V.heap.size < (V.alloc (.cells #[.slice (some ⟨wr.heap.size, 0, none⟩) 1 1, .slice (some ⟨g1, 0, none⟩) l.length l.length, .slice (some ⟨g2, 0, none⟩) l.length l.length] 72)).heap.size := by simp
          generalize hV0 : V.alloc (.cells #[.slice (some ⟨wr.heap.size, 0, none⟩) 1 1, .slice (some ⟨g1, 0, none⟩) l.length l.length, .slice (some ⟨g2, 0, none⟩) l.length l.length] 72) = W0 at *
          have e12 := e1.trans (e2.mono e1.size)
          have J0 := Lib.hid (HI0.out.grow e2)
          have J1 := Lib.hid (I1.out.grow e12)
          have J2 := Lib.hid (I2.out.grow e12)
          have HBT := Lib.hid (HBt.out.grow e12)
          have HWW := Lib.hid (HW.out.trans (e12.mono HW.out.size))
          have hbz := HWW.out.size
          rw [hvs] at HBK hW0s
          clear hV hV0 hvs e1 e2 e12 HI0 I1 I2 HBt
          generalize hbw0 : wr.heap.size = b0 at *
          clear hbw0
          go_loopw [11, 67] (fun v t wq => ∃ i : Nat, i ≤ 3 ∧ t = .int .i64 i ∧ BRow wq W0.heap.size 5 v ([xa, xb, xc].take i).flatten ∧ Below W0.heap.size W0 wq) (fun _ t _ => 3 - (intOf t).toNat)
          case atStart => exact ⟨0, by omega, rfl, BRow.nil _ _ _, Below.refl _ _⟩
          case round =>
            obtain ⟨i, hi3, rfl, hrow, hB⟩ := hrel
            have hlen3 := three_len (a := xa) (b := xb) (c := xc) i
            obtain ⟨Aa, ca, rfl, _⟩ := hrow.at_
            have HRR := Lib.hid hrow
            have HQ := Lib.hid hB
            by_cases h3 : i < 3
            · have hrow9 : ∃ (P : List Int) (Ap : Option Addr) (cp : Nat) (px : List UInt8), [xa, xb, xc][i]? = some px ∧ bandW P = some px ∧ wr.cell? ⟨b0 + 1, i, none⟩ = some (.slice Ap P.length cp) ∧ Ints wr Ap cp P ∧ (∀ v ∈ P, I64 v) ∧ P.length ≤ 100000 ∧ px.length ≤ 1000000 := by
                have hb9 := (blk_facts ((hB.block (b0 + 1) hW0s).trans HBK.out)).1
                obtain rfl | rfl | rfl : i = 0 ∨ i = 1 ∨ i = 2 := by omega
                · exact ⟨_, some ⟨b0, 0, none⟩, 1, xa, rfl, HFA.out, hb9 0, J0.out.grow hB, nat_i64 (fun v hv => by rw [List.mem_singleton] at hv; omega), by simp, by omega⟩
                · exact ⟨_, some ⟨g1, 0, none⟩, l.length, xb, rfl, HFB.out, by rw [wBegins_len]; exact hb9 1, J1.out.grow hB, nat_i64 (fun v hv => by have := wBegins_mem l [] v hv; omega), by rw [wBegins_len]; exact hl, by omega⟩
                · exact ⟨_, some ⟨g2, 0, none⟩, l.length, xc, rfl, HFC.out, by rw [wMore_len]; exact hb9 2, J2.out.grow hB, nat_i64 (fun v hv => by have := wMore_mem l [] v hv; omega), by rw [wMore_len]; exact hl, by omega⟩
              obtain ⟨P, Ap, cp, px, hpx, hbp, hcell, hPI, hP64, hPl, hpxl⟩ := hrow9
              have hz9 : b0 + 1 < wr.heap.size := Nat.lt_of_lt_of_le hW0s hB.size
              have HT3 := Lib.hid (three_get hpx)
              have HSh := Lib.hid (bwrite_any Ap cp P wr hPI hP64 hPl)
              rw [hbp] at HSh
              have hw9 := hB.size
              have q1 : decide ((i : Int) < 3) = true := decide_eq_true (by omega)
              generalize hacc : ([xa, xb, xc].take i).flatten = acc at *
              clear hacc hpx hbp hPI hP64 hrow hB hi3 p1
              go_wp2_with fail
              refine HSh.out.mono ?_
              rintro ex w5 ⟨u, rfl, hr5, hb5⟩
              obtain ⟨A5, c5, rfl, hba⟩ := hr5.at_
              have HBA := Lib.hid hba
              have HR5 := Lib.hid (HRR.out.grow hb5)
              have HW5 := Lib.hid (HQ.out.trans (hb5.mono HQ.out.size))
              clear hb5 hba hr5 HSh
              go_wp2_with (at_builtin; refine wpList_appBy rfl _ _ _ rfl W0.heap.size _ acc px rfl HR5.out _ rfl HBA.out.src (by omega) HW5.out.size ?_; intro v6 w6 hr6 hp6; have HR6 := Lib.hid hr6; have HW6 := Lib.hid (HW5.out.trans (hop_base HR5.out hp6 (Nat.le_refl _) HW5.out.size)); clear hr6 hp6)
              go_roundw
              case rel => exact ⟨i + 1, by omega, by go_num, by rw [HT3.out]; exact HR6.out, HW6.out⟩
              case measure => simp [intOf]; omega
            · have hi4 : i = 3 := by omega
              subst hi4
              have q1 : decide ((3 : Int) < 3) = false := by decide
              have hall : ([xa, xb, xc].take 3).flatten = xa ++ xb ++ xc := by simp
              rw [hall] at HRR hlen3 ⊢
              have hfl : (xa ++ xb ++ xc).length ≤ xa.length + xb.length + xc.length := by simp only [List.length_append]; omega
              have HTT := Lib.hid (HBT.out.grow HQ.out)
              have HFIN := Lib.hid (HALL.out)
              generalize hacc : xa ++ xb ++ xc = acc at *
              generalize hwt : wTail [] l = tl at *
              have hqs := HQ.out.size
              clear hacc hall hrow hB p1 hwt
              go_wp2_with (at_builtin; refine wpList_appBy rfl _ _ _ rfl W0.heap.size _ acc tl rfl HRR.out _ rfl HTT.out.src (by omega) hqs ?_; intro v6 w6 hr6 hp6; have HR6 := Lib.hid hr6; have HW6 := Lib.hid (HQ.out.trans (hop_base HRR.out hp6 (Nat.le_refl _) hqs)); clear hr6 hp6)
              go_ret2
              exact .inr ⟨HE.out, _, _, HFIN.out, rfl, brow_mono HR6.out (by omega), HWW.out.trans (HW6.out.mono hbz)⟩
end Go.Proofs.YtkdamaomhppkgaaGreat

/- The walks of layer 27's laws' helpers: few, same. -/
namespace Go.Proofs.YtkdamaomhppkgaaGreat
open Go.RowKit Pp

def fewW (l : List (List UInt8)) : Bool := l.all (fun s => decide (s.length ≤ 300)) && decide (l.length ≤ 100)
theorem fewW_sum {l : List (List UInt8)} : ∀ i, (∀ s ∈ l.take i, s.length ≤ 300) → sumL (l.take i) ≤ 300 * i := by
  intro i
  induction i with
  | zero => intro _; simp [sumL]
  | succ i ih =>
    intro h
    by_cases hi : i < l.length
    · obtain ⟨s, hs⟩ : ∃ s, l[i]? = some s := ⟨_, List.getElem?_eq_getElem hi⟩
      have h1 := ih (fun s hs => h s (by
        have : l.take i = (l.take (i + 1)).take i := by rw [List.take_take]; congr 1; omega
        rw [this] at hs
        exact List.mem_of_mem_take hs))
      have h2 := h s (by
        have : (l.take (i + 1))[i]? = some s := by rw [List.getElem?_take, if_pos (by omega)]; exact hs
        exact List.mem_of_getElem? this)
      rw [sumL_take_succ hs]
      omega
    · rw [List.take_of_length_le (by omega)]
      rw [List.take_of_length_le (by omega)] at h
      have h1 := ih (fun s hs => h s (List.mem_of_mem_take hs))
      rw [List.take_of_length_le (by omega)] at h1
      omega
theorem fewW_facts {l : List (List UInt8)} (h : fewW l = true) : (∀ s ∈ l, s.length ≤ 300) ∧ l.length ≤ 100 ∧ sumL l ≤ 30000 := by
  unfold fewW at h
  rw [Bool.and_eq_true, List.all_eq_true] at h
  have h1 : ∀ s ∈ l, s.length ≤ 300 := fun s hs => of_decide_eq_true (h.1 s hs)
  have h2 := of_decide_eq_true h.2
  have h3 := fewW_sum (l := l) 100 (fun s hs => h1 s (List.mem_of_mem_take hs))
  rw [List.take_of_length_le h2] at h3
  exact ⟨h1, h2, by omega⟩
theorem fewW_of {l : List (List UInt8)} (h1 : ∀ s ∈ l, s.length ≤ 300) (h2 : l.length ≤ 100) : fewW l = true := by
  unfold fewW
  rw [Bool.and_eq_true, List.all_eq_true]
  exact ⟨fun s hs => decide_eq_true (h1 s hs), decide_eq_true h2⟩
theorem wsame_step {l m : List (List UInt8)} {i : Nat} {x y : List UInt8} (h1 : l[i]? = some x) (h2 : m[i]? = some y) (h : l.take i = m.take i) : l.take (i + 1) = m.take (i + 1) ↔ x = y := by
  obtain ⟨a1, rfl⟩ := List.getElem?_eq_some_iff.1 h1
  obtain ⟨a2, rfl⟩ := List.getElem?_eq_some_iff.1 h2
  rw [List.take_succ_eq_append_getElem a1, h]
  constructor
  · intro e
    rw [List.take_succ_eq_append_getElem a2] at e
    exact List.singleton_inj.1 (List.append_cancel_left e)
  · intro e
    rw [List.take_succ_eq_append_getElem a2, e]
end Go.Proofs.YtkdamaomhppkgaaGreat

/- The walk of layer 27's law's fixed samples. -/
namespace Go.Proofs.YtkdamaomhppkgaaGreat
open Go.RowKit Pp

theorem wc_get {l : List (List UInt8)} {j : Nat} {x : List UInt8} (h : l[j]? = some x) : (l.map fun s => Value.string (bs s))[j]? = some (.string (bs x)) := by simp [h]
theorem txt_blk (w : World) (l : List (List UInt8)) (t : TypeId) : Txt (w.alloc (.cells (l.map fun s => Value.string (bs s)).toArray t)) (some ⟨w.heap.size, 0, none⟩) l.length l :=
  ⟨Nat.le_refl _, fun _ => ⟨w.heap.size, 0, rfl, by simp, fun j x hx => by
    rw [Nat.zero_add, (blk_facts (heap_alloc_new w (.cells (l.map fun s => Value.string (bs s)).toArray t))).1 j]
    simp only [List.getElem?_toArray]
    exact wc_get hx⟩⟩
theorem fixed_e1 : wordsE [[97], [97, 98]] = 0 := by decide
theorem fixed_e2 : wordsE [[98], [97]] = 2 := by decide
theorem fixed_m : (([[98], [97], [98]] : List (List UInt8)).mergeSort fun x y => decide (x ≤ y)) = [[97], [98], [98]] := by
  simp [List.mergeSort, List.MergeSort.Internal.splitInTwo, List.merge]
  rw [if_neg (show ¬ ([98] : List UInt8) ≤ [97] by decide)]
  simp [(show ([97] : List UInt8) ≤ [98] by decide)]
theorem fixed_s : Wo.sort [[98], [97], [98]] = [[97], [98]] := by
  unfold Wo.sort
  rw [fixed_m]
  decide
end Go.Proofs.YtkdamaomhppkgaaGreat

/- The walk of WordsBack. -/
namespace Go.Proofs.YtkdamaomhppkgaaGreat
open Go.RowKit Pp

theorem Wo.sort_len (l : List (List UInt8)) : (Wo.sort l).length ≤ l.length := by
  unfold Wo.sort Lib.compact Lib.compactUpTo
  rw [List.length_map]
  refine Nat.le_trans (List.length_filter_le _ _) ?_
  simp [List.length_mergeSort]
theorem rises_pair : ∀ {l : List (List UInt8)}, Wo.Rises l → risesL l
  | [], _ => trivial
  | [_], _ => trivial
  | a :: b :: l, h => by
    have h1 := List.pairwise_cons.1 h
    exact ⟨h1.1 b (by simp), rises_pair h1.2⟩
theorem sort_few {l : List (List UInt8)} (h : fewW l = true) : fewW (Wo.sort l) = true := by
  obtain ⟨h1, h2, _⟩ := fewW_facts h
  exact fewW_of (fun s hs => h1 s ((Wo.sort_mem l s).1 hs)) (Nat.le_trans (Wo.sort_len l) h2)
theorem sort_e {l : List (List UInt8)} (h : fewW l = true) : wordsE (Wo.sort l) = 0 := by
  obtain ⟨_, h2, h3⟩ := fewW_facts (sort_few h)
  unfold wordsE
  rw [if_neg (by omega), if_neg (fun h => h (rises_pair (Wo.sort_rises l))), if_neg (by omega)]
end Go.Proofs.YtkdamaomhppkgaaGreat

/- What is read rises, and has the room that was told: and the walk of WordsTell. -/
namespace Go.Proofs.YtkdamaomhppkgaaGreat
open Go.RowKit Pp

theorem wgo_facts (most : Int) : ∀ (ns ms : List Int) (f : Bool) (W : List UInt8) (S : Int) (r : List UInt8) (l : List (List UInt8)) (r' : List UInt8), wGo most f W S ns ms r = .ok (l, r') → S ≤ most →
    (f = false → risesL (W :: l)) ∧ risesL l ∧ S + (sumL l : Nat) ≤ most ∧ l.length ≤ ns.length ∧ ∀ s ∈ l, s.length ≤ W.length + r.length
  | [], ms, f, W, S, r, l, r', h, hS => by
    unfold wGo at h
    cases h
    exact ⟨fun _ => trivial, trivial, by simpa [sumL] using hS, Nat.le_refl _, fun s hs => by cases hs⟩
  | n :: ns, [], f, W, S, r, l, r', h, hS => by
    unfold wGo at h
    cases h
    exact ⟨fun _ => trivial, trivial, by simpa [sumL] using hS, Nat.zero_le _, fun s hs => by cases hs⟩
  | n :: ns, m :: ms, f, W, S, r, l, r', h, hS => by
    unfold wGo at h
    split at h
    · cases h
    · rename_i h1
      split at h
      · cases h
      · rename_i h2
        split at h
        · cases h
        · rename_i h3
          split at h
          · cases h
          · rename_i h4
            cases hg : wGo most false (W.take n.toNat ++ r.take m.toNat) (S + (n + m)) ns ms (r.drop m.toNat) with
            | error e => rw [hg] at h; cases h
            | ok q =>
              obtain ⟨l2, r2⟩ := q
              rw [hg] at h
              cases h
              obtain ⟨a1, a2, a3, a4, a5⟩ := wgo_facts most ns ms false _ _ _ _ _ hg (by omega)
              have hlen : (W.take n.toNat ++ r.take m.toNat).length = n.toNat + m.toNat := by
                rw [List.length_append, List.length_take, List.length_take]
                omega
              have hs : sumL ((W.take n.toNat ++ r.take m.toNat) :: l2) = (n.toNat + m.toNat) + sumL l2 := by
                rw [← hlen]
                simp [sumL]
              have hdl : (r.drop m.toNat).length = r.length - m.toNat := List.length_drop
              rw [hlen, hdl] at a5
              refine ⟨fun hf => ⟨Classical.not_not.1 fun hn => h4 ⟨hf, hn⟩, a1 rfl⟩, a1 rfl, by rw [hs]; omega, by simp only [List.length_cons]; omega, fun s hs => ?_⟩
              rcases List.mem_cons.1 hs with rfl | hs
              · rw [hlen]; omega
              · have := a5 s hs; omega
/-- What is read of few bytes. -/
theorem wordsR_facts {most : Int} {r r' : List UInt8} {l : List (List UInt8)} (h : wordsR most r = .ok (l, r')) : ¬ (most < 0 ∨ 16777216 < most) ∧ risesL l ∧ (sumL l : Int) ≤ most ∧ l.length ≤ r.length ∧ ∀ s ∈ l, s.length ≤ r.length := by
  unfold wordsR at h
  split at h
  · cases h
  · rename_i hm
    cases g1 : bandR 1 r with
    | error e => rw [g1] at h; cases h
    | ok p1 =>
      obtain ⟨k, r0⟩ := p1
      rw [g1] at h
      dsimp only at h
      cases g2 : bandN (k.getD 0 0) r0 with
      | error e => rw [g2] at h; cases h
      | ok p2 =>
        obtain ⟨ns, r1⟩ := p2
        rw [g2] at h
        dsimp only at h
        cases g3 : bandN (k.getD 0 0) r1 with
        | error e => rw [g3] at h; cases h
        | ok p3 =>
          obtain ⟨ms, r2⟩ := p3
          rw [g3] at h
          dsimp only at h
          obtain ⟨_, a2, a3, a4, a5⟩ := wgo_facts most ns ms true [] 0 r2 l r' h (by omega)
          obtain ⟨_, j1, _, _, b1⟩ := bandR_facts g1
          have o2 : Outc (bandN (k.getD 0 0) r0) [] ns 0 r1 := outc_ok g2
          have o3 : Outc (bandN (k.getD 0 0) r1) [] ms 0 r2 := outc_ok g3
          obtain ⟨_, _, _, c2, _⟩ := outc_band o2
          have d0 : r0.length ≤ r.length := by
            have h9 : r0 = r.drop j1 := b1
            rw [h9, List.length_drop]; omega
          have d1 : r1.length ≤ r0.length := by
            unfold bandN at g2
            split at g2
            · cases g2
            · obtain ⟨_, j, _, _, b2⟩ := bandR_facts g2
              have h9 : r1 = r0.drop j := b2
              rw [h9, List.length_drop]; omega
          have d2 : r2.length ≤ r1.length := by
            unfold bandN at g3
            split at g3
            · cases g3
            · obtain ⟨_, j, _, _, b2⟩ := bandR_facts g3
              have h9 : r2 = r1.drop j := b2
              rw [h9, List.length_drop]; omega
          refine ⟨hm, a2, by omega, by omega, fun s hs => ?_⟩
          have := a5 s hs
          simp only [List.length_nil] at this
          omega
theorem sumL_bound {l : List (List UInt8)} {n : Nat} (h : ∀ s ∈ l, s.length ≤ n) : sumL l ≤ n * l.length := by
  induction l with
  | nil => simp [sumL]
  | cons a l ih =>
    have h1 := ih (fun s hs => h s (List.mem_cons_of_mem _ hs))
    have h2 := h a (by simp)
    have hs : sumL (a :: l) = a.length + sumL l := by simp [sumL]
    rw [hs, List.length_cons, Nat.mul_succ]
    omega
theorem rises_at {l : List (List UInt8)} (h : risesL l) {j : Nat} {p s : List UInt8} (hp : l[j]? = some p) (hs : l[j + 1]? = some s) : p < s :=
  ((rises_take_succ hs).1 (rises_take_of h _)).2 j p rfl hp
end Go.Proofs.YtkdamaomhppkgaaGreat

/- The walk of layer 28: a table is read. -/
namespace Go.Proofs.YtkdamaomhppkgaaGreat
open Go.RowKit Go.Maps Pp

theorem rows_nodup {T : List Pv} (h : ∀ t, (Pv.row T t).Pairwise Pv.lt) : T.Nodup := by
  rw [List.nodup_iff_count]
  intro a
  have h1 : List.count a (Pv.row T a.tag) = List.count a T := by
    unfold Pv.row
    exact List.count_filter (by simp)
  rw [← h1]
  exact List.nodup_iff_count.1 (rises_nodup Pv.lin (h a.tag)) a
theorem tblR_bad1 {most e : Int} {x : List UInt8} (h1 : wordsR most x = .error e) : tblR most x = .error e := by
  unfold tblR
  rw [h1]
theorem tblR_bad2 {most e : Int} {x r0 : List UInt8} {ss : List (List UInt8)} (h1 : wordsR most x = .ok (ss, r0)) (h2 : bandN 10 r0 = .error e) : tblR most x = .error e := by
  unfold tblR
  rw [h1]
  dsimp only
  rw [h2]
theorem tblGo_ok {T L : List Pv} {t n : Int} {ts ns : List Int} {r r1 : List UInt8} (h : rowR T t n r = .ok (L, r1)) : tblGo T (t :: ts) (n :: ns) r = tblGo (T ++ L) ts ns r1 := by
  conv => lhs; unfold tblGo
  rw [h]
theorem tblGo_bad {T : List Pv} {t n e : Int} {ts ns : List Int} {r : List UInt8} (h : rowR T t n r = .error e) : tblGo T (t :: ts) (n :: ns) r = .error e := by
  unfold tblGo
  rw [h]
theorem tblGo_end {T : List Pv} {ns : List Int} {r : List UInt8} : tblGo T [] ns r = .ok (T, r) := by
  unfold tblGo
  rfl
theorem order_at {i : Nat} (h : i < 10) : ∃ t : Nat, tOrder[i]? = some (t : Int) ∧ readT (t : Int) ∧ tOrder.drop i = (t : Int) :: tOrder.drop (i + 1) ∧ (t : Int) ∉ tOrder.drop (i + 1) ∧ t < 13 := by
  obtain rfl | rfl | rfl | rfl | rfl | rfl | rfl | rfl | rfl | rfl : i = 0 ∨ i = 1 ∨ i = 2 ∨ i = 3 ∨ i = 4 ∨ i = 5 ∨ i = 6 ∨ i = 7 ∨ i = 8 ∨ i = 9 := by omega
  · exact ⟨3, rfl, by unfold readT; omega, rfl, by decide, by decide⟩
  · exact ⟨4, rfl, by unfold readT; omega, rfl, by decide, by decide⟩
  · exact ⟨5, rfl, by unfold readT; omega, rfl, by decide, by decide⟩
  · exact ⟨6, rfl, by unfold readT; omega, rfl, by decide, by decide⟩
  · exact ⟨7, rfl, by unfold readT; omega, rfl, by decide, by decide⟩
  · exact ⟨8, rfl, by unfold readT; omega, rfl, by decide, by decide⟩
  · exact ⟨12, rfl, by unfold readT; omega, rfl, by decide, by decide⟩
  · exact ⟨9, rfl, by unfold readT; omega, rfl, by decide, by decide⟩
  · exact ⟨10, rfl, by unfold readT; omega, rfl, by decide, by decide⟩
  · exact ⟨11, rfl, by unfold readT; omega, rfl, by decide, by decide⟩
theorem order_one {t : Int} (h : t ∈ tOrder) : t ≠ 1 := by
  unfold tOrder at h
  simp only [List.mem_cons, List.not_mem_nil, or_false] at h
  omega
theorem ints_block {w w' : World} {A : Option Addr} {c : Nat} {xs : List Int} (h : Ints w A c xs) (hs : w.heap.size ≤ w'.heap.size) (hk : ∀ g o, A = some ⟨g, o, none⟩ → 0 < xs.length → g < w.heap.size → w'.heap[g]? = w.heap[g]?) : Ints w' A c xs :=
  ⟨h.1, fun hp => by
    obtain ⟨g, o, e, hg, hc⟩ := h.2 hp
    exact ⟨g, o, e, Nat.lt_of_lt_of_le hg hs, fun j y hy => (World.cell?_of_block (hk g o e hp hg)).trans (hc j y hy)⟩⟩
/-- How far the table is read. -/
def TblSt (own : Nat → Prop) (b m base : Nat) (l : List UInt8) (ns : List Int) (i q : Nat) (e : Int) (out : Except Int (List Pv × List UInt8)) (w : World) : Prop :=
  (e ≠ 0 ∧ out = .error e) ∨ (e = 0 ∧ ns.length = 10 ∧ ∃ (T : List Pv) (us : Nat → Value) (n : Nat), TabOf w base b m n us T ∧ n ≤ T.length ∧ (∀ v ∈ T, v.fits) ∧ Part T ∧ (∀ t ∈ tOrder.drop i, Pv.row T t = []) ∧ T.length + (l.drop q).length ≤ l.length ∧
    (∀ s j, s < 13 → (us s).ownBlock = some j → own j) ∧ tblGo T (tOrder.drop i) (ns.drop i) (l.drop q) = out)
/-- What the call comes to. -/
def ReadRes8 (b2 : Nat) (A : Option Addr) (c : Nat) (l : List UInt8) (p : Nat) (most : Int) (x : World) (ex : Ending) (y : World) : Prop :=
  ∃ p' e', CurS y b2 A c l p' e' ∧ x.grownBy y (some b2) ∧ ((e' ≠ 0 ∧ ex = .returned (.pointer none) ∧ tblR most (l.drop p) = .error e') ∨
    (e' = 0 ∧ ∃ (b m n : Nat) (us : Nat → Value) (T : List Pv), ex = .returned (.pointer (some ⟨b, 0, none⟩)) ∧ tblR most (l.drop p) = .ok (T, l.drop p') ∧ TabOf y x.heap.size b m n us T ∧ Part T ∧ ∀ v ∈ T, v.fits))
theorem text_chk (s : List UInt8) : (Pv.ofText s).chk 0 9 5 = 0 := by
  unfold Pv.chk Pv.ofText
  simp
set_option maxHeartbeats 8000000 in
set_option maxRecDepth 100000 in
theorem tread_any (b2 : Nat) (A : Option Addr) (c : Nat) (l : List UInt8) (p : Nat) (most : Int) (x : World) (hC : CurS x b2 A c l p 0) (hk : I64 most) (hl : l.length ≤ 100000) :
    Calls Tryz.prog 11 #[.pointer (some ⟨b2, 0, none⟩), .int .i64 most] x (ReadRes8 b2 A c l p most x) := by
  have C0 := Lib.hid hC
  have HL := Lib.hid (hC.low (Nat.le_refl _))
  clear hC
  go_enter Tryz.func11, Tryz.ntmps11
  go_wp2_with fail
  refine (start_new x).mono ?_
  rintro e w1 ⟨us0, hus, rfl, hT1, hb1⟩
  have HWR := Lib.hid (wread_any (C0.out.grow hb1) most hk hl)
  have HUS := Lib.hid hus
  have HT1 := Lib.hid hT1
  have HB1 := Lib.hid hb1
  have hz1 := hT1.box.lt
  clear hus hT1 hb1
  go_wp2_with fail
  refine HWR.out.mono ?_
  rintro ex w6 ⟨uT, vs, q6, e6, rfl, hr6, hc6, ho6, hg6⟩
  have HBB := Lib.hid ((But.of HB1.out (Nat.le_refl _)).trans (But.grown hg6 HB1.out.size))
  have HT6 := Lib.hid (HT1.out.cur hg6 HL.out.1)
  have hs6 := hg6.size
  have HVS := Lib.hid (show risesL vs ∧ (∀ s ∈ vs, s.length ≤ 100000) ∧ vs.length ≤ 100000 ∧ (e6 = 0 → wordsR most (l.drop p) = .ok (vs, l.drop q6)) ∧ (e6 ≠ 0 → vs = [] ∧ wordsR most (l.drop p) = .error e6) from by
    have hdl : (l.drop p).length ≤ 100000 := by rw [List.length_drop]; omega
    by_cases h0 : e6 = 0
    · cases hw : wordsR most (l.drop p) with
      | error e9 =>
        rw [hw] at ho6
        exact absurd (ho6.1.symm.trans h0) ho6.2.1
      | ok q9 =>
        obtain ⟨l9, r9⟩ := q9
        rw [hw] at ho6
        obtain ⟨_, a2, a3⟩ := ho6
        dsimp only at a2 a3
        subst a2 a3
        obtain ⟨_, a4, _, a5, a6⟩ := wordsR_facts hw
        exact ⟨a4, fun s hs => Nat.le_trans (a6 s hs) hdl, Nat.le_trans a5 hdl, fun _ => rfl, fun h => absurd h0 h⟩
    · have h1 := outc_er1 ho6 h0
      rw [h1] at ho6
      have h2 : vs = [] := ho6.2.2
      subst h2
      exact ⟨by simp [risesL], by simp, by simp, fun h => absurd h h0, fun _ => ⟨rfl, h1⟩⟩)
  obtain ⟨At, ct, rfl, hTx⟩ := hr6.reads
  have HTX := Lib.hid hTx
  have HRB := Lib.hid (show ∀ g o, At = some ⟨g, o, none⟩ → 0 < vs.length → w1.heap.size ≤ g ∧ g < w6.heap.size from fun g o e hp => by
    obtain ⟨g', o', e', hg', _⟩ := hTx.2 hp
    rw [e'] at e
    cases e
    refine ⟨?_, hg'⟩
    have := fun k hk => (World.ownsRow.lt hr6 k hk).1
    exact this g (by rw [e']; rfl))
  have HC6 := Lib.hid hc6
  clear hr6 hc6 ho6 hg6 hTx HT1 HWR
  obtain ⟨O, eO⟩ : ∃ O, O = vs.map Pv.ofText := ⟨_, rfl⟩
  have hOl : O.length = vs.length := by rw [eO, List.length_map]
  have HPT := Lib.hid (show Part O from by rw [eO]; exact part_texts HVS.out.1)
  have HON := Lib.hid (rows_nodup HPT.out.rise)
  have HOF := Lib.hid (show ∀ (i : Nat) s, vs[i]? = some s → O[i]? = some (Pv.ofText s) ∧ (Pv.ofText s).fits from fun i s hs => by
    refine ⟨by rw [eO, List.getElem?_map, hs]; rfl, ?_⟩
    have h1 := HVS.out.2.1 s (List.mem_of_getElem? hs)
    unfold Pv.fits Pv.ofText I64
    dsimp only
    exact ⟨by omega, by omega, by omega, by simp, by simp, by simp⟩)
  have HEO := Lib.hid eO
  have hvl := HVS.out.2.2.1
  clear eO
  have TS := Lib.hid (show TabS w6 x.heap.size (x.heap.size + 1) x.heap.size 0 us0 (fun t => Pv.row (O.take 0) t) (Pv.nums O 0) (fun v => decide (v ∈ O.take 0)) from HT6.out.same (fun t => rfl) (fun v => by rw [nums_zero]) (fun v => by simp))
  go_wp2_with fail
  go_loopw [17] (fun u wr => ∃ (i : Nat) (us : Nat → Value) (n : Nat), i ≤ vs.length ∧ u = .int .i64 i ∧ TabS wr x.heap.size (x.heap.size + 1) x.heap.size n us (fun t => Pv.row (O.take i) t) (Pv.nums O i) (fun v => decide (v ∈ O.take i)) ∧ n ≤ i ∧ (∀ s k, (us s).ownBlock = some k → w6.heap.size ≤ k) ∧ Txt wr At ct vs ∧ CurS wr b2 A c l q6 e6 ∧ w6.heap.size ≤ wr.heap.size ∧ But x.heap.size b2 x wr) (fun u _ => vs.length - (intOf u).toNat)
  case atStart => exact ⟨0, us0, 0, Nat.zero_le _, rfl, TS.out, Nat.le_refl _, (fun s k hk => by rw [HUS.out] at hk; cases hk), HTX.out, HC6.out, Nat.le_refl _, HBB.out⟩
  case round =>
    obtain ⟨i, us2, n2, hil, rfl, hT, hn2, hus2, hTx, hC, hsz2, hB⟩ := hrel
    have MT := Lib.hid hT
    have MU := Lib.hid hus2
    have MX := Lib.hid hTx
    have MC := Lib.hid hC
    have MB := Lib.hid hB
    clear hT hus2 hTx hC hB TS
    by_cases hi : i < vs.length
    · obtain ⟨g, o, s, rfl, hg, hsi, hct⟩ := MX.out.at_ hi
      have p1 : decide ((i : Int) < (vs.length : Int)) = true := decide_eq_true (by omega)
      have p2 : decide (i < vs.length) = true := decide_eq_true hi
      obtain ⟨hOi, hOf⟩ := HOF.out i s hsi
      have hrl := row_len (O.take i) 1
      rw [List.length_take] at hrl
      have HADD := Lib.hid (show Calls Tryz.prog 27 #[.pointer (some ⟨x.heap.size + 1, 0, none⟩), .agg #[.int .i64 1, .string (bs s), .int .u64 0, .string ⟨#[]⟩, .string ⟨#[]⟩, .string ⟨#[]⟩]] wr _ from add_any x.heap.size (x.heap.size + 1) x.heap.size n2 1 us2 (fun t => Pv.row (O.take i) t) (Pv.nums O i) (fun v => decide (v ∈ O.take i)) (Pv.ofText s) wr MT.out hOf rfl (by omega) (by omega) (by show (Pv.row (O.take i) ((1 : Nat) : Int)).length ≤ _; exact Nat.le_trans hrl (by omega)))
      have HTN := Lib.hid (fun (y : World) (us : Nat → Value) h => TabS.next (x := y) (base := x.heap.size) (b := x.heap.size + 1) (m := x.heap.size) (n := n2 + 1) (us := us) hOi HON.out (t := 1) rfl h)
      have HGG := Lib.hid (HRB.out g o rfl (by omega))
      clear hOi hOf hrl hsi
      go_wp2_with fail
      refine HADD.out.mono ?_
      rintro e x5 ⟨rfl, ⟨us3, hT3, hu3⟩, hfr, hb5⟩
      have hgw := HGG.out
      have N5 := Lib.hid (HTN.out x5 us3 hT3)
      have NB := Lib.hid (MB.out.trans (But.of hb5 (Nat.le_refl _)))
      have NS : w6.heap.size ≤ x5.heap.size := Nat.le_trans hsz2 hb5.size
      have NU := Lib.hid (show ∀ s k, (us3 s).ownBlock = some k → w6.heap.size ≤ k from fun s k hk => by
        rcases hu3 s k hk with h | h
        · exact MU.out s k h
        · omega)
      have hbg := hfr g (by omega) (by omega) (by omega) (fun e => by have := MU.out 1 g e; omega)
      have NX := Lib.hid (show Txt x5 (some ⟨g, o, none⟩) ct vs from ⟨MX.out.1, fun hp => by
        obtain ⟨g9, o9, e9, hg9, hc9⟩ := MX.out.2 hp
        cases e9
        exact ⟨g, o, rfl, Nat.lt_of_lt_of_le hg9 hb5.size, fun j y hy => (World.cell?_of_block hbg).trans (hc9 j y hy)⟩⟩)
      have NC := Lib.hid (MC.out.but HL.out hb5)
      clear hT3 hu3 hfr hb5 hbg hct HADD HTN MT MU MX MC MB
      go_wp2_with fail
      go_roundw
      case rel => exact ⟨i + 1, us3, n2 + 1, by omega, by go_num, N5.out, by omega, NU.out, NX.out, NC.out, NS, NB.out⟩
      case measure => simp [intOf]; omega
    · obtain rfl : i = vs.length := by omega
      have p1 : decide ((vs.length : Int) < (vs.length : Int)) = false := decide_eq_false (by omega)
      have p2 : decide (vs.length < vs.length) = false := decide_eq_false (by omega)
      have hT := MT.out
      rw [← hOl, List.take_length] at hT
      have NT := Lib.hid (show TabOf wr x.heap.size (x.heap.size + 1) x.heap.size n2 us2 O from hT)
      clear hT MT MX p1 p2
      have hob : ∀ s j, s < 13 → (us2 s).ownBlock = some j → j < wr.heap.size := fun s j hs hj => (World.ownsRow.lt (NT.out.rows s hs) j hj).2
      have HOB := Lib.hid hob
      obtain ⟨wA, rfl⟩ : ∃ wA, wA = wr := ⟨_, rfl⟩
      clear hob
      go_wp2_with fail
      refine (torder_any wA).mono ?_
      rintro e w8 ⟨rfl, hI8, hb8⟩
      have HI8 := Lib.hid hI8
      have hs8 := hb8.size
      have MC8 := Lib.hid (MC.out.grow hb8)
      have MB8 := Lib.hid (MB.out.trans (But.of hb8 MB.out.size))
      have NT8 := Lib.hid (NT.out.grow hb8)
      have h8lt : wA.heap.size < w8.heap.size := by
        obtain ⟨g, o, e, hg, _⟩ := hI8.2 (by decide)
        cases e
        exact hg
      have HBR := Lib.hid (bread_any MC8.out 10 (by unfold I64; decide) hl)
      have hxA : x.heap.size ≤ wA.heap.size := MB.out.size
      clear hI8 hb8 MC MB NT
      go_wp2_with fail
      refine HBR.out.mono ?_
      rintro ex wB ⟨uN, ns, q9, e9, rfl, hi9, hc9, ho9, hn9, hg9⟩
      obtain ⟨An, cn, rfl, hIn, hAn⟩ := hi9
      have hs9 := hg9.size
      have HIN := Lib.hid hIn
      have HAN := Lib.hid hAn
      have HI9 := Lib.hid (ints_block HI8.out hs9 (fun g o e _ hg => hg9.block g hg (fun e2 => by cases e; have := Option.some.inj e2; have := HL.out.1; omega)))
      have HC9 := Lib.hid hc9
      have HB9 := Lib.hid (MB8.out.trans (But.grown hg9 (by omega)))
      have NT9 := Lib.hid (NT8.out.cur hg9 HL.out.1)
      have hst : TblSt (fun j => j < wA.heap.size ∨ wB.heap.size ≤ j) (x.heap.size + 1) x.heap.size x.heap.size l ns 0 q9 e9 (tblR most (l.drop p)) wB ∧ ns.length ≤ 10 ∧ ∀ v ∈ ns, I64 v := by
        by_cases h6 : e6 = 0
        · have hw := HVS.out.2.2.2.1 h6
          have hO := ho9 h6
          by_cases h9 : e9 = 0
          · subst h9
            obtain ⟨b1, _, b3, _, b5⟩ := outc_band hO
            have he1 := words_eat hw
            have he2 := bandN_eat b1
            refine ⟨.inr ⟨rfl, by omega, O, us2, n2, NT9.out, by omega, fun v hv => ?_, HPT.out, fun t ht => ?_, ?_, fun s j hs hj => .inl (HOB.out s j hs hj), ?_⟩, by omega, fun v hv => by have := b5 v hv; unfold I64; omega⟩
            · obtain ⟨i, hi2, rfl⟩ := List.getElem_of_mem hv
              obtain ⟨s, hs⟩ : ∃ s, vs[i]? = some s := ⟨_, List.getElem?_eq_getElem (by omega)⟩
              obtain ⟨h1, h2⟩ := HOF.out i s hs
              rw [List.getElem?_eq_getElem hi2] at h1
              rw [Option.some.inj h1]
              exact h2
            · rw [HEO.out, row_only (t := 1) (fun v hv => by obtain ⟨s, _, rfl⟩ := List.mem_map.1 hv; rfl), if_neg (order_one ht)]
            · have := List.length_drop (l := l) (i := p)
              rw [hOl]
              omega
            · rw [tblR_eq hw b1 (by rw [← HEO.out])]
              rfl
          · exact ⟨.inl ⟨h9, tblR_bad2 hw (outc_er1 hO h9)⟩, by
              have h1 := outc_er1 hO h9
              rw [h1] at hO
              have h2 : ns = [] := hO.2.2
              rw [h2]
              exact ⟨Nat.zero_le _, fun v hv => by cases hv⟩⟩
        · obtain ⟨h1, h2⟩ := hn9 h6
          rw [h1, h2]
          exact ⟨.inl ⟨h6, tblR_bad1 (HVS.out.2.2.2.2 h6).2⟩, Nat.zero_le _, fun v hv => by cases hv⟩
      have HST := Lib.hid hst.1
      have hnl := hst.2.1
      have HNI := Lib.hid hst.2.2
      clear hst hIn hAn hc9 ho9 hn9 hg9 HBR MC8 MB8 NT8 NT9 HI8 HVS HTX HRB HC6 HPT HON HOF HEO HT6 HBB HUS MU
      go_wp2_with fail
      go_loopw [33] (fun u wr => ∃ (i q : Nat) (e : Int), u = .int .i64 i ∧ i ≤ ns.length ∧ CurS wr b2 A c l q e ∧ But x.heap.size b2 x wr ∧ Ints wr (some ⟨wA.heap.size, 0, none⟩) 10 tOrder ∧ Ints wr An cn ns ∧ wB.heap.size ≤ wr.heap.size ∧ TblSt (fun j => j < wA.heap.size ∨ wB.heap.size ≤ j) (x.heap.size + 1) x.heap.size x.heap.size l ns i q e (tblR most (l.drop p)) wr) (fun u _ => ns.length - (intOf u).toNat)
      case atStart => exact ⟨0, q9, e9, rfl, Nat.zero_le _, HC9.out, HB9.out, HI9.out, HIN.out, Nat.le_refl _, HST.out⟩
      case round =>
        obtain ⟨i, q, e, rfl, hin, hC, hB, hIo, hIn, hsz, hst⟩ := hrel
        have MC := Lib.hid hC
        have MB := Lib.hid hB
        have MIo := Lib.hid hIo
        have MIn := Lib.hid hIn
        have MS := Lib.hid hst
        clear hC hB hIo hIn hst
        by_cases hi : i < ns.length
        · obtain ⟨t, ht1, ht2, ht3, ht4, ht13⟩ := order_at (i := i) (by omega)
          obtain ⟨g1, o1, v1, eg, hg1, hv1, hcell1⟩ := MIo.out.at_ (i := i) (by show i < 10; omega)
          cases eg
          rw [ht1] at hv1
          cases hv1
          rw [Nat.zero_add] at hcell1
          obtain ⟨g2, o2, k, rfl, hg2, hk2, hcell2⟩ := MIn.out.at_ hi
          have p1 : decide ((i : Int) < (ns.length : Int)) = true := decide_eq_true (by omega)
          have p2 : decide (i < ns.length) = true := decide_eq_true hi
          have p3 : decide (i < 10) = true := decide_eq_true (by omega)
          have p4 : (i : Int) < 10 := by omega
          have hk64 := HNI.out k (List.mem_of_getElem? hk2)
          have hnd : ns.drop i = k :: ns.drop (i + 1) := by
            obtain ⟨h1, rfl⟩ := List.getElem?_eq_some_iff.1 hk2
            exact List.drop_eq_getElem_cons h1
          have hg2a := HAN.out g2 o2 rfl
          have hg2b : g2 < wB.heap.size := by
            obtain ⟨g9, o9, e9', hg9, _⟩ := HIN.out.2 (by omega)
            cases e9'
            exact hg9
          have hL1 := HL.out.1
          rcases MS.out with ⟨he, hout⟩ | ⟨he, hn10, T, us3, n3, hT, hn3, hf3, hP3, hr3, hl3, ho3, hgo⟩
          · have HR := Lib.hid (row8_err (x.heap.size + 1) b2 t A c l q k e wr MC.out he hk64 hl)
            have HE := Lib.hid he
            have HO := Lib.hid hout
            clear he hout hk64 hnd hk2 ht1 ht2 ht3 ht4 MS
            go_wp2_with fail
            refine HR.out.mono ?_
            rintro ex z ⟨rfl, q', hC', hg'⟩
            have NC := Lib.hid hC'
            have NB := Lib.hid (MB.out.trans (But.grown hg' (by omega)))
            have NIo := Lib.hid (ints_block MIo.out hg'.size (fun g o e _ hg => hg'.block g hg (fun e2 => by cases e; have := Option.some.inj e2; omega)))
            have NIn := Lib.hid (ints_block MIn.out hg'.size (fun g o e _ hg => hg'.block g hg (fun e2 => by cases e; have := Option.some.inj e2; omega)))
            have NS : wB.heap.size ≤ z.heap.size := Nat.le_trans hsz hg'.size
            clear hC' hg' hcell1 hcell2 HR MC MB MIo MIn
            go_wp2_with fail
            go_roundw
            case rel => exact ⟨i + 1, q', e, by go_num, by omega, NC.out, NB.out, NIo.out, NIn.out, NS, .inl ⟨HE.out, HO.out⟩⟩
            case measure => simp [intOf]; omega
          · subst he
            have HR := Lib.hid (row8_any x.heap.size (x.heap.size + 1) x.heap.size n3 b2 t us3 T A c l q k wr MC.out hT HL.out (rows_nodup hP3.rise) hP3.ok hf3 ht2 (hr3 t (by rw [ht3]; exact List.mem_cons_self ..)) hk64 hl (by omega) hn3)
            have H1 := Lib.hid (show Part T ∧ Pv.row T (t : Int) = [] ∧ (∀ u ∈ tOrder.drop (i + 1), u ≠ (t : Int) ∧ Pv.row T u = []) from ⟨hP3, hr3 t (by rw [ht3]; exact List.mem_cons_self ..), fun u hu => ⟨fun e => ht4 (e ▸ hu), hr3 u (by rw [ht3]; exact List.mem_cons_of_mem _ hu)⟩⟩)
            have H2 := Lib.hid ho3
            have H3 := Lib.hid (show tblGo T ((t : Int) :: tOrder.drop (i + 1)) (k :: ns.drop (i + 1)) (l.drop q) = tblR most (l.drop p) from by rw [← ht3, ← hnd]; exact hgo)
            have H4 := Lib.hid hn10
            have H5 := Lib.hid ht2
            clear hn10 hT hn3 hf3 hP3 hr3 ho3 hgo hk64 hnd hk2 ht1 ht2 ht3 ht4 MS
            go_wp2_with fail
            refine HR.out.mono ?_
            rintro ex z ⟨rfl, q', e', hC', hB', hF', hres⟩
            have NC := Lib.hid hC'
            have NB := Lib.hid (MB.out.trans hB')
            have hfr : ∀ g, wA.heap.size ≤ g → g < wB.heap.size → g < wr.heap.size → z.heap[g]? = wr.heap[g]? := fun g h1 h2 h3 => hF'.2 g h3 (by omega) (by omega) (by omega) (fun s hs e => by
              rcases H2.out s g hs e with h | h <;> omega)
            have NIo := Lib.hid (ints_block MIo.out hF'.1 (fun g o e _ hg => hfr g (by cases e; omega) (by cases e; omega) hg))
            have NIn := Lib.hid (ints_block MIn.out hF'.1 (fun g o e _ hg => hfr g (by cases e; omega) (by cases e; omega) hg))
            have NS : wB.heap.size ≤ z.heap.size := Nat.le_trans hsz hF'.1
            have NST := Lib.hid (show TblSt (fun j => j < wA.heap.size ∨ wB.heap.size ≤ j) (x.heap.size + 1) x.heap.size x.heap.size l ns (i + 1) q' e' (tblR most (l.drop p)) z from by
              rcases hres with ⟨he', hbad⟩ | ⟨he', L, us4, n4, hok, hT4, hn4, hf4, ho4⟩
              · exact .inl ⟨he', by rw [← H3.out, tblGo_bad hbad]⟩
              · obtain ⟨hPL, htL⟩ := rowR_part H1.out.1 H5.out H1.out.2.1 hok
                have heat := rowR_eat hok
                refine .inr ⟨he', H4.out, T ++ L, us4, n4, hT4, hn4, hf4, hPL, fun u hu => ?_, ?_, fun s j hs hj => ?_, by rw [← tblGo_ok hok]; exact H3.out⟩
                · rw [row_app, (H1.out.2.2 u hu).2, row_only htL, if_neg (H1.out.2.2 u hu).1]
                  rfl
                · rw [List.length_append]
                  omega
                · rcases ho4 s j hs hj with ⟨s', hs', h⟩ | h
                  · exact H2.out s' j hs' h
                  · exact .inr (Nat.le_trans hsz h))
            clear hC' hB' hF' hres hfr hcell1 hcell2 HR MC MB MIo MIn H1 H2 H3 H4 H5
            go_wp2_with fail
            go_roundw
            case rel => exact ⟨i + 1, q', e', by go_num, by omega, NC.out, NB.out, NIo.out, NIn.out, NS, NST.out⟩
            case measure => simp [intOf]; omega
        · obtain rfl : i = ns.length := by omega
          have p1 : decide ((ns.length : Int) < (ns.length : Int)) = false := decide_eq_false (by omega)
          have p2 : decide (ns.length < ns.length) = false := decide_eq_false (by omega)
          have HER := Lib.hid (cerr_any MC.out)
          have NG := Lib.hid (MB.out.grownBy (Nat.le_refl _))
          go_wp2_with fail
          refine HER.out.mono ?_
          rintro ex z ⟨rfl, ez⟩
          have ez := ez.symm
          subst ez
          rcases MS.out with ⟨he, hout⟩ | ⟨he, hn10, T, us3, n3, hT, hn3, hf3, hP3, hr3, hl3, ho3, hgo⟩
          · have qe : (e != 0) = true := by simpa using he
            have HE := Lib.hid he
            have HO := Lib.hid hout
            clear he hout
            go_wp2_with fail
            go_ret
            exact ⟨q, e, MC.out, NG.out, .inl ⟨HE.out, rfl, HO.out⟩⟩
          · subst he
            have HT := Lib.hid hT
            have HF := Lib.hid hf3
            have HP := Lib.hid hP3
            have HG := Lib.hid (show tblR most (l.drop p) = .ok (T, l.drop q) from by
              rw [← hgo, hn10, show tOrder.drop 10 = [] from rfl, tblGo_end])
            clear hn10 hT hn3 hf3 hP3 hr3 hl3 ho3 hgo
            go_wp2_with fail
            go_ret
            exact ⟨q, 0, MC.out, NG.out, .inr ⟨rfl, _, _, _, _, _, rfl, HG.out, HT.out, HP.out, HF.out⟩⟩
end Go.Proofs.YtkdamaomhppkgaaGreat

/- The walk of layer 28: the columns that tell a tag's values. -/
namespace Go.Proofs.YtkdamaomhppkgaaGreat
open Go.RowKit Go.Maps Pp

/-- What the call comes to. -/
def ColsRes (O : List Pv) (t : Int) (w : World) (e : Ending) (w' : World) : Prop :=
  ∃ (g k c : Nat) (hs : List Value), e = .returned (.slice (some ⟨g, k, none⟩) hs.length c) ∧ g < w'.heap.size ∧ (∀ (j : Nat) u, hs[j]? = some u → w'.cell? ⟨g, k + j, none⟩ = some u) ∧ Heads w' w.heap.size hs (colsW O t) ∧ Below w.heap.size w w'
theorem map_take_succ {α β : Type} (f : α → β) {l : List α} {i : Nat} {x : α} (h : l[i]? = some x) : (l.take (i + 1)).map f = (l.take i).map f ++ [f x] := by
  obtain ⟨h1, rfl⟩ := List.getElem?_eq_some_iff.1 h
  rw [List.take_succ_eq_append_getElem h1, List.map_append]
  rfl
theorem tbl_num {O : List Pv} {x : Pv} (hx : x ∈ O) : Pv.nums O O.length x = ((Pv.rk O x : Nat) : Int) := by rw [nums_all, if_pos hx]
theorem needs_last {x : Pv} {xs : List Pv} : (x :: xs)[xs.length]? = some (xs.getLastD x) := by
  induction xs generalizing x with
  | nil => rfl
  | cons y ys ih =>
    rw [List.length_cons, List.getElem?_cons_succ, ih]
    cases ys <;> rfl
theorem lastD_mem (x : Pv) (xs : List Pv) : xs.getLastD x ∈ x :: xs := List.mem_of_getElem? needs_last
/-- One of two rows has grown. -/
theorem cols_mid {base : Nat} {w6 W7 x7 : World} {ua ub va : Value} {LA LB : List Int} (RA : IRow w6 base ua LA) (RB : IRow w6 base ub LB) (AP : ∀ g, ua.ownBlock = some g → ub.ownBlock ≠ some g) (hbase : base ≤ w6.heap.size)
    (k7 : Below w6.heap.size w6 W7) (hp7 : Hop W7 x7 ua.ownBlock va.ownBlock) :
    IRow x7 base ub LB ∧ Below base w6 x7 ∧ (∀ g, g < w6.heap.size → ua.ownBlock ≠ some g → x7.heap[g]? = w6.heap[g]?) ∧ w6.heap.size ≤ x7.heap.size :=
  ⟨(RB.grow k7).kept hp7.1 (fun k hk e => AP k e hk), (k7.mono hbase).trans (hp7.below (Nat.le_trans hbase k7.size) (fun _k hk => RA.base_le hk)),
    fun g hg hne => (hp7.1.block g (Nat.lt_of_lt_of_le hg k7.size) (fun e => hne e.symm)).trans (k7.block g hg), Nat.le_trans k7.size hp7.1.size⟩
/-- Both have grown. -/
theorem cols_step {base : Nat} {w6 W7 x7 W8 x8 : World} {ua ub va vb : Value} {LA LB : List Int} {a : Int} (RA : IRow w6 base ua LA) (RB : IRow w6 base ub LB) (AP : ∀ g, ua.ownBlock = some g → ub.ownBlock ≠ some g) (hbase : base ≤ w6.heap.size)
    (k7 : Below w6.heap.size w6 W7) (hp7 : Hop W7 x7 ua.ownBlock va.ownBlock) (hr7 : IRow x7 base va (LA ++ [a]))
    (k8 : Below x7.heap.size x7 W8) (hp8 : Hop W8 x8 ub.ownBlock vb.ownBlock) :
    IRow x8 base va (LA ++ [a]) ∧ (∀ g, va.ownBlock = some g → vb.ownBlock ≠ some g) ∧ Below base w6 x8 := by
  have hB := fun k (hk : ub.ownBlock = some k) => (World.ownsRow.lt RB k hk).2
  have hA := fun k (hk : ua.ownBlock = some k) => (World.ownsRow.lt RA k hk).2
  have hV := fun k (hk : va.ownBlock = some k) => (World.ownsRow.lt hr7 k hk).2
  have hne : ∀ k, va.ownBlock = some k → ub.ownBlock ≠ some k := fun k hk e => by
    rcases hp7.2 with h2 | ⟨q, hq, h2⟩
    · exact AP k (h2 ▸ hk) e
    · rw [h2] at hk
      cases hk
      have := hB _ e
      have := k7.size
      omega
  obtain ⟨_, hb, _, hs⟩ := cols_mid RA RB AP hbase k7 hp7
  have h8 : base ≤ x7.heap.size := Nat.le_trans hbase hs
  refine ⟨(hr7.grow k8).kept hp8.1 hne, fun g hg e => ?_, hb.trans ((k8.mono h8).trans (hp8.below (Nat.le_trans h8 k8.size) (fun k hk => RB.base_le hk)))⟩
  rcases hp8.2 with h2 | ⟨q, hq, h2⟩
  · exact hne g hg (h2 ▸ e)
  · rw [h2] at e
    cases e
    have := hV _ hg
    have := k8.size
    omega
set_option maxHeartbeats 8000000 in
set_option maxRecDepth 100000 in
theorem columns_any (base b m n : Nat) (us : Nat → Value) (O : List Pv) (t : Nat) (w : World) (h : TabOf w base b m n us O) (hO : Tbl O) (hf : ∀ v ∈ O, v.fits) (ht : t < 13) (hl : O.length ≤ 1000000) :
    Calls Tryz.prog 30 #[.pointer (some ⟨b, 0, none⟩), .int .i64 t] w (ColsRes O t w) := by
  have HT := Lib.hid h
  have HND := Lib.hid (fun v w => needs_any v w)
  unfold vv at HND
  obtain ⟨A, c, eu, hV, hAz⟩ := (h.rows t ht).reads
  have hcell := h.box.cell ht
  rw [eu] at hcell
  have hbz := h.box.lt
  have hrl := row_len O (t : Int)
  have HM := Lib.hid (fun v (hv : v ∈ Pv.row O (t : Int)) => (show v.fits ∧ (∀ x ∈ v.needs, x ∈ O ∧ x.fits) from
    ⟨hf v (mem_row.1 hv).1, fun x hx => ⟨hO.closed v (mem_row.1 hv).1 x hx, hf x (hO.closed v (mem_row.1 hv).1 x hx)⟩⟩))
  have HCW := Lib.hid (show colsW O (t : Int) = if (t : Int) = 3 ∨ (t : Int) = 4 then [(Pv.row O t).map (tellB O)] else if (t : Int) = 7 ∨ (t : Int) = 8 then [(Pv.row O t).map (tellA O)] else [(Pv.row O t).map (tellA O), (Pv.row O t).map (tellB O)] from rfl)
  have HV := Lib.hid hV
  have i1 : (t : Int) < 13 := by omega
  have i2 : decide (t < 13) = true := decide_eq_true ht
  clear h hO hf eu hV hAz
  unfold ColsRes
  generalize eL : Pv.row O (t : Int) = L at *
  clear eL
  go_enter Tryz.func30, Tryz.ntmps30
  go_wp2_with fail
  go_loopw [5, 6, 17] (fun ua ub u wr => ∃ i : Nat, i ≤ L.length ∧ u = .int .i64 i ∧ IRow wr w.heap.size ua ((L.take i).map (tellA O)) ∧ IRow wr w.heap.size ub ((L.take i).map (tellB O)) ∧ (∀ g, ua.ownBlock = some g → ub.ownBlock ≠ some g) ∧ Below w.heap.size w wr) (fun _ _ u _ => L.length - (intOf u).toNat)
  case atStart => exact ⟨0, Nat.zero_le _, rfl, IRow.nil _ _, IRow.nil _ _, (fun g e => by cases e), Below.refl _ _⟩
  case round =>
    obtain ⟨ua, rfl⟩ : ∃ ua, ua = u5 := ⟨_, rfl⟩
    obtain ⟨ub, rfl⟩ : ∃ ub, ub = u6 := ⟨_, rfl⟩
    obtain ⟨i, hil, rfl, hra, hrb, hap, hB⟩ := hrel
    have RA := Lib.hid hra
    have RB := Lib.hid hrb
    have AP := Lib.hid hap
    have MB := Lib.hid hB
    clear hra hrb hap hB
    by_cases hi : i < L.length
    · obtain ⟨g, o, v, rfl, hg, hv, c0, c1, c2, c3, c4, c5⟩ := (HV.out.grow MB.out).at_ hi
      have p1 : decide ((i : Int) < (L.length : Int)) = true := decide_eq_true (by omega)
      have p2 : decide (i < L.length) = true := decide_eq_true hi
      obtain ⟨hvf, hvn⟩ := HM.out v (List.mem_of_getElem? hv)
      have HVN := Lib.hid hvn
      have HA1 := Lib.hid (map_take_succ (tellA O) hv)
      have HB1 := Lib.hid (map_take_succ (tellB O) hv)
      have k1 := Lib.hid ((Below.refl wr.heap.size wr).alloc (Nat.le_refl _) (.cells #[.int .i64 v.tag, .string (bs v.text), .int .u64 v.bits, .string (bs v.cls), .string (bs v.name), .string (bs v.desc)] 36))
      have q1 := Lib.hid (vbox_new wr v)
      have hvb := hvf.2.1
      clear hv hvn hvf
      go_wp2_with fail
      refine (HND.out v _).mono ?_
      rintro e w6 ⟨uN, rfl, hr6, hb6⟩
      have HR6 := Lib.hid hr6
      have K6 := Lib.hid (k1.out.trans (hb6.mono k1.out.size))
      have Q6 := Lib.hid (q1.out.keep hb6 q1.out.lt)
      have hrA6 := Lib.hid (RA.out.grow K6.out)
      have hrB6 := Lib.hid (RB.out.grow K6.out)
      have MB6 := Lib.hid (MB.out.trans (K6.out.mono MB.out.size))
      have HG6 := Lib.hid (show wr.heap.size + 1 ≤ w6.heap.size from by have := hb6.size; simp at this; exact this)
      have HGA := Lib.hid (fun k (hk : ua.ownBlock = some k) => (World.ownsRow.lt RA.out k hk).2)
      have HGB := Lib.hid (fun k (hk : ub.ownBlock = some k) => (World.ownsRow.lt RB.out k hk).2)
      clear hr6 hb6 k1 q1 c0 c1 c2 c3 c4 c5 RA RB K6 HV
      have HL1 := Lib.hid (show ((L.take i).map (tellA O)).length ≤ 1000000 by rw [List.length_map, List.length_take]; omega)
      have HL2 := Lib.hid (show ((L.take i).map (tellB O)).length ≤ 1000000 by rw [List.length_map, List.length_take]; omega)
      generalize (L.take i).map (tellA O) = LA at *
      generalize (L.take i).map (tellB O) = LB at *
      have hws6 := MB6.out.size
      obtain ⟨A6, c6, rfl, hV6, hA6⟩ := HR6.out.reads
      rcases hne : v.needs with _ | ⟨x, xs⟩
      · have ta : tellA O v = (v.bits : Int) / 4294967296 := by unfold tellA; rw [hne]; rfl
        have tb : tellB O v = (v.bits : Int) % 4294967296 := by unfold tellB; rw [hne]; rfl
        rw [ta] at HA1
        rw [tb] at HB1
        obtain ⟨d0, d1, d2, d3, d4, d5⟩ := Q6.out.at_
        have hq6 := Q6.out.lt
        clear hV6 hA6 ta tb HR6 HVN
        have k7 := Lib.hid ((Below.refl w6.heap.size w6).alloc (Nat.le_refl _) (.cells #[.int .i64 ((v.bits : Int) / 4294967296)] 3))
        go_upto_region 10 with (at_builtin; refine wpList_appIs rfl _ _ rfl w.heap.size ua LA rfl (hrA6.out.grow k7.out) _ [(v.bits : Int) / 4294967296] rfl (isrc_one (heap_alloc_new _ _)) (by have := HL1.out; simp; omega) (Nat.le_trans MB6.out.size k7.out.size) ?_; intro v7 x7 hr7 hp7; have HR7 := Lib.hid hr7; have HP7 := Lib.hid hp7; clear hr7 hp7)
        obtain ⟨rb7, bb7, fr7, sz7⟩ := cols_mid hrA6.out hrB6.out AP.out hws6 k7.out HP7.out
        have RB7 := Lib.hid rb7
        have Q7 := Lib.hid ((fr7 _ hq6 (fun e => by have := HGA.out _ e; omega)).trans Q6.out)
        clear rb7 bb7 fr7 d0 d1 d2 d3 d4 d5
        obtain ⟨d0, d1, d2, d3, d4, d5⟩ := VBox.at_ (v := v) Q7.out
        have hq7 := VBox.lt (v := v) Q7.out
        have k8 := Lib.hid ((Below.refl x7.heap.size x7).alloc (Nat.le_refl _) (.cells #[.int .i64 ((v.bits : Int) % 4294967296)] 3))
        have hb8 : w.heap.size ≤ x7.heap.size := Nat.le_trans hws6 sz7
        go_wp2_with (at_builtin; refine wpList_appIs rfl _ _ rfl w.heap.size ub LB rfl (RB7.out.grow k8.out) _ [(v.bits : Int) % 4294967296] rfl (isrc_one (heap_alloc_new _ _)) (by have := HL2.out; simp; omega) (Nat.le_trans hb8 k8.out.size) ?_; intro v8 x8 hr8 hp8; have HR8 := Lib.hid hr8; have HP8 := Lib.hid hp8; clear hr8 hp8)
        obtain ⟨ra8, ap8, bb8⟩ := cols_step hrA6.out hrB6.out AP.out hws6 k7.out HP7.out HR7.out k8.out HP8.out
        have N1 := Lib.hid ra8
        have N2 := Lib.hid ap8
        have N3 := Lib.hid (MB6.out.trans bb8)
        clear ra8 ap8 bb8 d0 d1 d2 d3 d4 d5
        go_roundw
        case rel => exact ⟨i + 1, by omega, by go_num, by rw [HA1.out]; exact N1.out, by rw [HB1.out]; exact HR8.out, N2.out, N3.out⟩
        case measure => simp [intOf]; omega
      · rw [hne] at hV6
        have hwm := fun z hz => HVN.out z (by rw [hne]; exact hz)
        obtain ⟨hxO, hxf⟩ := hwm x (by simp)
        obtain ⟨hyO, hyf⟩ := hwm _ (lastD_mem x xs)
        have ta : tellA O v = ((Pv.rk O x : Nat) : Int) := by unfold tellA; rw [hne]
        have tb : tellB O v = ((Pv.rk O (xs.getLastD x) : Nat) : Int) := by unfold tellB; rw [hne]
        rw [ta] at HA1
        rw [tb] at HB1
        have HT6 := HT.out.grow MB6.out
        have HM6 := Lib.hid HT6
        have hm6 := HT6.box.map
        have hbz6 := HT6.box.lt
        have hlk := VTab.look1 (show VTab w6.drew m n _ _ from HT6.num.grow (Below.refl _ _).drew) hxf.k
        unfold vv at hlk
        rw [tbl_num hxO] at hlk
        obtain ⟨g6, o6, x', rfl, hg6, hx', e0, e1, e2, e3, e4, e5⟩ := hV6.at_ (i := 0) (by simp)
        simp only [List.getElem?_cons_zero, Option.some.injEq] at hx'
        subst hx'
        simp only [Nat.zero_mul, Nat.add_zero] at e0 e1 e2 e3 e4 e5
        have HV6 := Lib.hid hV6
        have hg6w := (hA6 g6 o6 rfl).1
        rw [World.size_alloc] at hg6w
        have HYO := Lib.hid hyO
        have HYF := Lib.hid hyf
        have HXK := Lib.hid (show ([((Pv.rk O x : Nat) : Int)] : List Int).length = 1 from rfl)
        clear hwm hxO hxf hyO hyf ta tb HT6 hV6 hA6
        go_upto_region 7 with fail
        go_cut [5, 17] from 17 to 65 (fun s5 s17 wx => s17 = .int .i64 i ∧ ∃ W7, Below w6.heap.size w6 W7 ∧ IRow wx w.heap.size s5 (LA ++ [((Pv.rk O x : Nat) : Int)]) ∧ Hop W7 wx ua.ownBlock s5.ownBlock)
        case first =>
          go_region_law ((refine step_appIs rfl _ _ rfl w.heap.size ua LA rfl (hrA6.out.grow (by (repeat (first | exact Below.refl _ _ | refine Below.drew ?_ | refine Below.alloc ?_ ?_ _)); (all_goals (first | omega | (simp; done) | (simp; omega))))) _ [((Pv.rk O x : Nat) : Int)] rfl (isrc_one (heap_alloc_new _ _)) (by have := HL1.out; simp; omega) (by first | omega | (simp; omega)) ?_; intro v7 x7 hr7 hp7))
          all_goals
            go_wp2_with fail
            go_meet
            case rel => exact ⟨rfl, _, (by (repeat (first | exact Below.refl _ _ | refine Below.drew ?_ | refine Below.alloc ?_ ?_ _)); (all_goals (first | omega | (simp; done) | (simp; omega)))), hr7, hp7⟩
        case rest =>
          obtain ⟨rfl, W7, k7', hr7, hp7⟩ := hcut
          have k7 := Lib.hid k7'
          have HR7 := Lib.hid hr7
          have HP7 := Lib.hid hp7
          obtain ⟨rb7, bb7, fr7, sz7⟩ := cols_mid hrA6.out hrB6.out AP.out hws6 k7.out HP7.out
          have RB7 := Lib.hid rb7
          obtain ⟨g6', o6', y, eA, _, hy', e0, e1, e2, e3, e4, e5⟩ := (HV6.out.block sz7 (fun g9 o9 e9 => by
            cases e9
            exact fr7 g6 hg6 (fun e => by have := HGA.out _ e; omega))).at_ (i := xs.length) (by simp)
          cases eA
          rw [needs_last] at hy'
          simp only [Option.some.injEq] at hy'
          have HY1 := Lib.hid (show y ∈ O from hy' ▸ HYO.out)
          have HY2 := Lib.hid (show y.fits from hy' ▸ HYF.out)
          rw [hy'] at HB1
          have HT7 := HT.out.grow (MB6.out.trans bb7)
          have hm7 := HT7.box.map
          have hbz7 := HT7.box.lt
          have hlk := VTab.look1 (show VTab wc.drew m n _ _ from HT7.num.grow (Below.refl _ _).drew) HY2.out.k
          unfold vv at hlk
          rw [tbl_num HY1.out] at hlk
          have hg7 : g6 < wc.heap.size := Nat.lt_of_lt_of_le hg6 sz7
          have hb8 : w.heap.size ≤ wc.heap.size := Nat.le_trans hws6 sz7
          have BB7 := Lib.hid bb7
          clear rb7 bb7 fr7 hr7 hp7 k7' HT7 hy' HY1 HY2 HYO HYF HV6 hg6 hm6 hbz6
          have hq9 : xs.length ≤ 1000 := by have h9 := v.needs_len; rw [hne] at h9; simp at h9; omega
          generalize xs.length = q at *
          have hq8 : IntKind.i64.wrap (q : Int) = (q : Int) := by rw [IntKind.wrap_i64]; omega
          have hq7 : (0 : Int) ≤ (q : Int) ∧ (q : Int) < (q : Int) + 1 := by omega
          go_upto_region 8 with fail
          go_region_law ((refine step_appIs rfl _ _ rfl w.heap.size ub LB rfl (RB7.out.grow (by (repeat (first | exact Below.refl _ _ | refine Below.drew ?_ | refine Below.alloc ?_ ?_ _)); (all_goals (first | omega | (simp; done) | (simp; omega))))) _ [((Pv.rk O y : Nat) : Int)] rfl (isrc_one (heap_alloc_new _ _)) (by have := HL2.out; simp; omega) (by first | omega | (simp; omega)) ?_; intro v8 x8 hr8 hp8))
          all_goals
            have k8 : Below wc.heap.size wc (wc.drew.alloc (.cells #[.int .i64 ((Pv.rk O y : Nat) : Int)] 3)) := (Below.refl _ _).drew.alloc (Nat.le_refl _) _
            obtain ⟨ra8, ap8, bb8⟩ := cols_step hrA6.out hrB6.out AP.out hws6 k7.out HP7.out HR7.out k8 hp8
            have HR8 := Lib.hid hr8
            have N1 := Lib.hid ra8
            have N2 := Lib.hid ap8
            have N3 := Lib.hid (MB6.out.trans bb8)
            clear ra8 ap8 bb8 e0 e1 e2 e3 e4 e5 hlk hr8 hp8
            go_wp2_with fail
            go_roundw
            case rel => exact ⟨i + 1, by omega, by go_num, by rw [HA1.out]; exact N1.out, by rw [HB1.out]; exact HR8.out, N2.out, N3.out⟩
            case measure => simp [intOf]; omega
    · obtain rfl : i = L.length := by omega
      have p1 : decide ((L.length : Int) < (L.length : Int)) = false := decide_eq_false (by omega)
      have p2 : decide (L.length < L.length) = false := decide_eq_false (by omega)
      have ht9 : L.take L.length = L := List.take_length
      rw [ht9] at RA RB
      obtain ⟨Aa, ca, ea, _⟩ := RA.out.reads
      obtain ⟨Ab, cb, eb, _⟩ := RB.out.reads
      rw [List.length_map] at ea eb
      have EA := Lib.hid ea
      have EB := Lib.hid eb
      have k1 := (Below.refl wr.heap.size wr).alloc (Nat.le_refl _) (.cells #[ua, ub] 72)
      have hws := MB.out.size
      have R1 := Lib.hid (RA.out.grow k1)
      have R2 := Lib.hid (RB.out.grow k1)
      have NB := Lib.hid (MB.out.trans (k1.mono hws))
      have HBK := Lib.hid (heap_alloc_new wr (.cells #[ua, ub] 72))
      rw [ea, eb] at R1 R2 NB HBK
      subst ea eb
      clear ht9 k1 RA RB AP
      have h3 : (firstT t = 1 ∧ lastT t = 2 ∧ ((t : Int) = 3 ∨ (t : Int) = 4)) ∨ (firstT t = 0 ∧ lastT t = 1 ∧ ¬ ((t : Int) = 3 ∨ (t : Int) = 4) ∧ ((t : Int) = 7 ∨ (t : Int) = 8)) ∨ (firstT t = 0 ∧ lastT t = 2 ∧ ¬ ((t : Int) = 3 ∨ (t : Int) = 4) ∧ ¬ ((t : Int) = 7 ∨ (t : Int) = 8)) := by
        unfold firstT lastT
        by_cases a3 : (t : Int) = 3 ∨ (t : Int) = 4
        · exact .inl ⟨if_pos a3, if_neg (by omega), a3⟩
        · by_cases a7 : (t : Int) = 7 ∨ (t : Int) = 8
          · exact .inr (.inl ⟨if_neg a3, if_pos a7, a3, a7⟩)
          · exact .inr (.inr ⟨if_neg a3, if_neg a7, a3, a7⟩)
      have HFi := fun w => tfirst_any (t : Int) w
      have HLa := fun w => tlast_any (t : Int) w
      have HCW' := HCW.out
      have HX1 := Lib.hid (Heads.one R1.out)
      have HX2 := Lib.hid (Heads.one R2.out)
      have HX3 := Lib.hid (HX1.out.app HX2.out)
      have HLT := Lib.hid (show wr.heap.size < (wr.alloc (.cells #[.slice Aa L.length ca, .slice Ab L.length cb] 72)).heap.size by simp)
      have hb0 := (blk_facts HBK.out).1 0
      have hb1 := (blk_facts HBK.out).1 1
      have HC0 := Lib.hid hb0
      have HC1 := Lib.hid hb1
      clear hb0 hb1
      rcases h3 with ⟨f1, f2, a3⟩ | ⟨f1, f2, a3, a7⟩ | ⟨f1, f2, a3, a7⟩
      · rw [if_pos a3] at HCW'
        have HC2 := Lib.hid HCW'
        rw [f1] at HFi
        rw [f2] at HLa
        have HFI := Lib.hid HFi
        have HLA := Lib.hid HLa
        clear HFi HLa HCW' f1 f2 a3 HCW
        go_wp2_with fail
        refine (HFI.out _).mono ?_
        rintro e z ⟨rfl, rfl⟩
        go_wp2_with fail
        refine (HLA.out _).mono ?_
        rintro e z ⟨rfl, rfl⟩
        go_wp2_with fail
        go_ret
        refine ⟨wr.heap.size, 1, _, [.slice Ab L.length cb], rfl, HLT.out, fun j u hu => ?_, ?_, NB.out⟩
        · cases j with
          | zero => simp at hu; subst hu; exact HC1.out
          | succ j => simp at hu
        · rw [HC2.out]
          exact HX2.out
      · rw [if_neg a3, if_pos a7] at HCW'
        have HC2 := Lib.hid HCW'
        rw [f1] at HFi
        rw [f2] at HLa
        have HFI := Lib.hid HFi
        have HLA := Lib.hid HLa
        clear HFi HLa HCW' f1 f2 a3 a7 HCW
        go_wp2_with fail
        refine (HFI.out _).mono ?_
        rintro e z ⟨rfl, rfl⟩
        go_wp2_with fail
        refine (HLA.out _).mono ?_
        rintro e z ⟨rfl, rfl⟩
        go_wp2_with fail
        go_ret
        refine ⟨wr.heap.size, 0, _, [.slice Aa L.length ca], rfl, HLT.out, fun j u hu => ?_, ?_, NB.out⟩
        · cases j with
          | zero => simp at hu; subst hu; exact HC0.out
          | succ j => simp at hu
        · rw [HC2.out]
          exact HX1.out
      · rw [if_neg a3, if_neg a7] at HCW'
        have HC2 := Lib.hid HCW'
        rw [f1] at HFi
        rw [f2] at HLa
        have HFI := Lib.hid HFi
        have HLA := Lib.hid HLa
        clear HFi HLa HCW' f1 f2 a3 a7 HCW
        go_wp2_with fail
        refine (HFI.out _).mono ?_
        rintro e z ⟨rfl, rfl⟩
        go_wp2_with fail
        refine (HLA.out _).mono ?_
        rintro e z ⟨rfl, rfl⟩
        go_wp2_with fail
        go_ret
        refine ⟨wr.heap.size, 0, _, [.slice Aa L.length ca, .slice Ab L.length cb], rfl, HLT.out, fun j u hu => ?_, ?_, NB.out⟩
        · cases j with
          | zero => simp at hu; subst hu; exact HC0.out
          | succ j =>
            cases j with
            | zero => simp at hu; subst hu; exact HC1.out
            | succ j => simp at hu
        · rw [HC2.out]
          exact HX3.out
end Go.Proofs.YtkdamaomhppkgaaGreat
