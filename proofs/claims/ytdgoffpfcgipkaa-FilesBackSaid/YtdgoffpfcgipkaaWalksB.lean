/- The walk of layer 32: Split. -/
import Derived.Test.YtdgoffpfcgipkaaWalksA
import Derived.Test.YtdgoffpfcgipkaaCols
namespace Go.Proofs.Ytdgoffpfcgipkaa
open Go.RowKit

theorem Fi.col_int {ns : List (List UInt8)} {f : Fi} (hok : f.ok) (hn : ns.length ≤ 1000000) (hd : f.data.length ≤ 1000000000) (hm : f.name ∈ ns) (j : Nat) : I64 (Fi.col ns j f : Int) := by
  unfold I64
  obtain ⟨h1, h2⟩ := hok
  have h3 := (Fi.num_at hm).1
  have : Fi.col ns j f ≤ 2000000000 := by
    match j with
    | 0 => show Fi.num ns f.name ≤ _; omega
    | 1 => show f.date ≤ _; omega
    | 2 => show f.clock ≤ _; omega
    | j + 3 => show Fi.size f ≤ _; unfold Fi.size; split <;> omega
  omega
theorem seven (w : World) (o : Obj) : (w.alloc o).heap[w.heap.size]? = some o := heap_alloc_new _ _

theorem brow_cells {w : World} {base : Nat} {v : Value} {l : List UInt8} (h : BRow w base 5 v l) {g : Nat} (hg : v.ownBlock = some g) : base ≤ g ∧ ∃ cur, w.heap[g]? = some (.cells cur 5 (0, 0)) := by
  rcases h.2 with ⟨h, _⟩ | ⟨g', cap, cur, h, h1, hg', _⟩
  · rw [h] at hg; simp [Value.ownBlock] at hg
  · rw [h] at hg
    simp [Value.ownBlock] at hg
    subst hg
    exact ⟨h1, cur, hg'⟩
theorem flat_len (l : List Fi) (M : Nat) (h : ∀ f ∈ l, f.bytes.length ≤ M) : (l.flatMap Fi.bytes).length ≤ l.length * M := by
  induction l with
  | nil => simp
  | cons x l ih =>
    have h1 := ih fun y hy => h y (List.mem_cons_of_mem _ hy)
    have h2 := h x (List.mem_cons_self ..)
    rw [List.flatMap_cons, List.length_append, List.length_cons, Nat.add_mul]
    omega

set_option maxHeartbeats 8000000 in
set_option maxRecDepth 100000 in
theorem split_any (A : Option Addr) (c : Nat) (l : List Fi) (w : World) (hx : FilesAt w A c l) (hn : l.length ≤ 100000) (hd : ∀ f ∈ l, f.data.length ≤ 100000) :
    Calls Try.prog 7 #[.slice A l.length c] w fun e w' => ∃ An cn R Ad cd, e = .returned (.tuple #[.slice An (Fi.names l).length cn, .slice (some ⟨R, 0, none⟩) 4 4, .slice Ad (Fi.all l).length cd]) ∧ Txt w' An cn (Fi.names l) ∧ Cols w' R (Fi.cols (Fi.names l) l) ∧ BAt w' Ad cd (Fi.all l) ∧ Below w.heap.size w w' := by
  have HX := Lib.hid hx
  have HD := Lib.hid hd
  obtain ⟨i1, hi1, hz01, hz11, hz21⟩ := info_parts infoInt
  obtain ⟨i2, hi2, hz02, hz12, hz22⟩ := info_parts infoByte
  clear hx hd
  go_enter Try.func7, Try.ntmps7
  go_wp2_with fail
  go_loopw [5, 20] (fun v u wr => ∃ i : Nat, i ≤ l.length ∧ u = .int .i64 i ∧ TRow wr w.heap.size v ((l.take i).map Fi.name) ∧ Below w.heap.size w wr) (fun _ u _ => l.length - (intOf u).toNat)
  case atStart => exact ⟨0, Nat.zero_le _, rfl, TRow.nil _ _, Below.refl _ _⟩
  case round =>
    obtain ⟨i, hil, rfl, hT, hB⟩ := hrel
    have HT := Lib.hid hT
    have HB := Lib.hid hB
    have hsz := hB.size
    by_cases hi : i < l.length
    · obtain ⟨g, o, f, Bf, df, rfl, hg, hf, hok, hbf, c0, c1, c2, c3, c4⟩ := (HX.out.grow hB).at_ hi
      obtain ⟨Av, cv, rfl, _⟩ := hT.reads
      have hsn := Lib.hid (show (l.take (i + 1)).map Fi.name = (l.take i).map Fi.name ++ [f.name] by
        obtain ⟨h1, rfl⟩ := List.getElem?_eq_some_iff.1 hf
        rw [List.take_succ_eq_append_getElem h1, List.map_append]; rfl)
      have hlt : ((l.take i).map Fi.name).length ≤ 1000000000000 := by simp; omega
      clear hT hB hbf hok hf
      generalize (l.take i).map Fi.name = names at HT hsn hlt ⊢
      have k1 := (Below.refl wr.heap.size wr).alloc (Nat.le_refl _) (.cells #[.string (bs f.name), .int .u16 (f.date : Int), .int .u16 (f.clock : Int), .bool f.cls, .slice Bf f.data.length df] 37)
      have k2 := k1.alloc (by simp) (.cells #[.string (bs f.name)] 9)
      have HTa := Lib.hid (HT.out.grow k2)
      have HQ := Lib.hid (show ((wr.alloc (.cells #[.string (bs f.name), .int .u16 (f.date : Int), .int .u16 (f.clock : Int), .bool f.cls, .slice Bf f.data.length df] 37)).alloc (.cells #[.string (bs f.name)] 9)).heap[wr.heap.size + 1]? = some (.cells #[.string (bs f.name)] 9 (0, 0)) by have := heap_alloc_new (wr.alloc (.cells #[.string (bs f.name), .int .u16 (f.date : Int), .int .u16 (f.clock : Int), .bool f.cls, .slice Bf f.data.length df] 37)) (.cells #[.string (bs f.name)] 9); rwa [World.size_alloc] at this)
      have HK := Lib.hid (Below.after' HB.out k2 (Nat.le_refl _))
      have HZ := Lib.hid (show w.heap.size ≤ ((wr.alloc (.cells #[.string (bs f.name), .int .u16 (f.date : Int), .int .u16 (f.clock : Int), .bool f.cls, .slice Bf f.data.length df] 37)).alloc (.cells #[.string (bs f.name)] 9)).heap.size by simp; omega)
      have HL := Lib.hid hlt
      clear k1 k2 hlt
      go_wp2_with (at_builtin; refine wpList_appS rfl _ _ rfl w.heap.size (.slice Av names.length cv) _ rfl HTa.out (wr.heap.size + 1) f.name 9 (0, 0) rfl HQ.out HL.out HZ.out ?_)
      intro v' w1 hown hhop
      have HR := Lib.hid hown
      have HB2 := Lib.hid (HK.out.trans (hhop.below HZ.out (fun k e => (World.ownsRow.lt HT.out k e).1)))
      clear hown hhop
      go_wp2
      go_roundw
      case rel => exact ⟨i + 1, by omega, by go_num, by rw [hsn.out]; exact HR.out, HB2.out⟩
      case measure => simp [intOf]; omega
    · rw [List.take_of_length_le (by omega)] at hT
      obtain ⟨Av, cv, rfl, hTx⟩ := hT.reads
      obtain ⟨nml, hnml⟩ : ∃ x, x = l.map Fi.name := ⟨_, rfl⟩
      have hnl : nml.length ≤ 1000000000000 := by rw [hnml]; simp; omega
      have hnm := Lib.hid (fun f (h : f ∈ l) => Fi.names_mem l f h)
      have hrise := Lib.hid (show Fi.Rises (Fi.names l) from Fi.sort_rises _)
      have hnlen : (Fi.names l).length ≤ 1000000 := by have := Fi.names_len l; omega
      have hsame := Lib.hid (show Fi.sort nml = Fi.names l by rw [hnml]; rfl)
      rw [← hnml] at hTx ⊢
      have HXr := Lib.hid (HX.out.grow hB)
      have HTx := Lib.hid hTx
      clear hT hTx hB hnml
      generalize hns : Fi.names l = ns at hnm hrise hnlen hsame ⊢
      have HNS := Lib.hid hns
      clear hns
      go_wp2_with fail
      refine (wsort_any Av cv nml wr HTx.out hnl).mono ?_
      rintro e w2 ⟨vn, rfl, hN, hb2⟩
      rw [hsame.out] at hN
      obtain ⟨An, cn, rfl, hNt⟩ := hN.reads
      have HN := Lib.hid hNt
      have HX2 := Lib.hid (HXr.out.grow hb2)
      have J2 := Lib.hid (Below.after' HB.out hb2 (Nat.le_refl _))
      clear hN hNt hb2 HXr
      have hmk := make_rows w2
      have HRm := Lib.hid (RowsAt.made w2 none)
      have HKm := Lib.hid ((Below.refl w2.heap.size w2).alloc (Nat.le_refl _) (.cells #[.slice none 0 0, .slice none 0 0, .slice none 0 0, .slice none 0 0] 43))
      go_wp2_with fail
      go_loopw [10, 35] (fun v u wr => ∃ i : Nat, i ≤ l.length ∧ u = .int .i64 i ∧ (∃ vs, RowsAt wr w2.heap.size w2.heap.size (Fi.cols ns (l.take i)) none vs) ∧ BRow wr w2.heap.size 5 v (Fi.all (l.take i)) ∧ Below w2.heap.size w2 wr) (fun _ u _ => l.length - (intOf u).toNat)
      case atStart => exact ⟨0, Nat.zero_le _, rfl, ⟨_, HRm.out⟩, BRow.nil _ _ _, HKm.out⟩
      case round =>
        rename World => wr
        obtain ⟨i, hil, rfl, ⟨vs, hR⟩, hD, hB⟩ := hrel
        obtain ⟨Ad, cd, rfl, hAd0⟩ := hD.at_
        have HAd0 := Lib.hid hAd0
        clear hAd0
        have HRi := Lib.hid hR
        have HDi := Lib.hid hD
        have HBi := Lib.hid hB
        by_cases hi : i < l.length
        · obtain ⟨g, o, f, Bf, df, rfl, hg, hf, hok, hbf, c0, c1, c2, c3, c4⟩ := (HX2.out.grow hB).at_ hi
          have hmem := List.mem_of_getElem? hf
          have hdl := HD.out f hmem
          have HCS := Lib.hid (fun j => Fi.cols_snoc (ns := ns) hf j)
          have HAS := Lib.hid (Fi.all_snoc hf)
          have hfm := hnm.out f hmem
          have kb := (Below.refl wr.heap.size wr).alloc (Nat.le_refl _) (.cells #[.string (bs f.name), .int .u16 (f.date : Int), .int .u16 (f.clock : Int), .bool f.cls, .slice Bf f.data.length df] 37)
          have hS := Lib.hid (search_any An cn ns f.name _ (HN.out.grow (Below.after' HBi.out kb (Nat.le_refl _))) (by omega) hrise.out hfm)
          have Q0 := Lib.hid (heap_alloc_new wr (.cells #[.string (bs f.name), .int .u16 (f.date : Int), .int .u16 (f.clock : Int), .bool f.cls, .slice Bf f.data.length df] 37))
          have KB0 := Lib.hid kb
          have HBF := Lib.hid hbf
          have HOK := Lib.hid hok
          have hzn := bs_size f.name
          clear hR hD hB hf hmem hfm kb hbf
          go_wp2_with fail
          refine hS.out.mono ?_
          rintro e w5 ⟨rfl, hb5⟩
          have hk5 := Below.after' KB0.out hb5 (Nat.le_refl _)
          have q5 := (hb5.block wr.heap.size (Array.getElem?_eq_some_iff.1 Q0.out).1).trans Q0.out
          have HK5 := Lib.hid hk5
          have HQ5 := Lib.hid q5
          have e0 : w5.cell? ⟨wr.heap.size, 0, none⟩ = some (.string (bs f.name)) := (blk_facts q5).1 0
          have e1 : w5.cell? ⟨wr.heap.size, 1, none⟩ = some (.int .u16 (f.date : Int)) := (blk_facts q5).1 1
          have e2 : w5.cell? ⟨wr.heap.size, 2, none⟩ = some (.int .u16 (f.clock : Int)) := (blk_facts q5).1 2
          have e3 : w5.cell? ⟨wr.heap.size, 3, none⟩ = some (.bool f.cls) := (blk_facts q5).1 3
          have e4 : w5.cell? ⟨wr.heap.size, 4, none⟩ = some (.slice Bf f.data.length df) := (blk_facts q5).1 4
          have HR5 := Lib.hid (HRi.out.grow (no' := none) hk5 (fun L e => by cases e))
          have HD5 := Lib.hid (HDi.out.grow hk5)
          have HB5 := Lib.hid (Below.after' HBi.out hk5 (Nat.le_refl _))
          have HBF5 := Lib.hid (HBF.out.grow hk5)
          clear hk5 q5 hb5 c0 c1 c2 c3 c4 hS Q0 KB0
          have hdatl : (Fi.all (l.take i)).length ≤ 10000000000 := by
            have := flat_len (l.take i) 100000 (fun f hf => by
              have := HD.out f (List.mem_of_mem_take hf)
              unfold Fi.bytes; split <;> simp <;> omega)
            rw [List.length_take] at this
            have h2 := Nat.mul_le_mul_right 100000 (show min i l.length ≤ 100000 by omega)
            unfold Fi.all
            omega
          generalize Fi.all (l.take i) = dat at HDi HD5 HAS hdatl ⊢
          cases hc : f.cls with
          | true =>
            rw [hc] at e3
            have HSZ := Lib.hid (show (0 : Int) = ((Fi.size f : Nat) : Int) by unfold Fi.size; rw [hc]; rfl)
            have HR := HR5
            have HBX := HB5
            have HDX := Lib.hid (show BRow w5 w2.heap.size 5 (.slice Ad dat.length cd) (Fi.all (l.take (i + 1))) by rw [HAS.out]; unfold Fi.bytes; rw [hc]; simp; exact HD5.out)
            clear hc
            have hdd : (f.date : Int) ≤ 65535 := by have := hok.1; omega
            have hcc : (f.clock : Int) ≤ 65535 := by have := hok.2; omega
            have hL0 := heap_alloc_new w5 (.cells #[.int .i64 (Fi.num ns f.name : Nat), .int .i64 (f.date : Int), .int .i64 (f.clock : Int), .int .i64 (0)] 3)
            have kX := (Below.refl w5.heap.size w5).alloc (Nat.le_refl _) (.cells #[.int .i64 (Fi.num ns f.name : Nat), .int .i64 (f.date : Int), .int .i64 (f.clock : Int), .int .i64 (0)] 3)
            have HL0 := Lib.hid hL0
            have HKX := Lib.hid kX
            clear hL0 kX
            go_wp2_with fail
            go_loopw [69] (fun u wq => ∃ k : Nat, k ≤ 4 ∧ u = .int .i64 k ∧ (∃ vs', RowsAt wq w2.heap.size w2.heap.size (fun j => if j < k then Fi.cols ns (l.take (i + 1)) j else Fi.cols ns (l.take i) j) (some w5.heap.size) vs') ∧ Below w2.heap.size w2 wq ∧ KB 3 43 w5 wq ∧ wq.heap[w5.heap.size]? = some (.cells #[.int .i64 (Fi.num ns f.name : Nat), .int .i64 (f.date : Int), .int .i64 (f.clock : Int), .int .i64 (0)] 3 (0, 0))) (fun u _ => 4 - (intOf u).toNat)
            case atStart => exact ⟨0, by omega, rfl, ⟨vs, (HR.out.grow (no' := some w5.heap.size) HKX.out (fun L e => by cases e; exact .inl (Nat.le_refl _))).congr (fun j hj => rfl)⟩, Below.trans HBX.out (HKX.out.mono HBX.out.size), KB.of_below HKX.out, HL0.out⟩
            case round =>
              rename World => wq
              obtain ⟨k, hk4, rfl, ⟨vs', hR'⟩, hB', hK', hL'⟩ := hrel
              have HR' := Lib.hid hR'
              have HB' := Lib.hid hB'
              have HK' := Lib.hid hK'
              have HL' := Lib.hid hL'
              by_cases hk : k < 4
              · obtain ⟨Ak, ck, hvk, _⟩ := (hR'.row k hk).reads
                have c5 := hR'.cell hk
                have c6 : wq.cell? ⟨w5.heap.size, k, none⟩ = some (.int .i64 (Fi.col ns k f : Nat)) := by
                  rw [(blk_facts hL').1 k]
                  match k, hk with
                  | 0, _ => rfl
                  | 1, _ => rfl
                  | 2, _ => rfl
                  | 3, _ => show some (Value.int .i64 (0)) = some (.int .i64 ((Fi.size f : Nat) : Int)); rw [HSZ.out]
                simp only [Nat.lt_irrefl, if_false] at hvk
                have hir := hR'.row k hk
                simp only [Nat.lt_irrefl, if_false] at hir
                have kq := (Below.refl wq.heap.size wq).alloc (Nat.le_refl _) (.cells #[.int .i64 (Fi.col ns k f : Nat)] 3)
                have HIR := Lib.hid (hir.grow kq)
                have HKQ := Lib.hid kq
                have HQ := Lib.hid (heap_alloc_new wq (.cells #[.int .i64 (Fi.col ns k f : Nat)] 3))
                have HZ := Lib.hid (show w2.heap.size ≤ (wq.alloc (.cells #[.int .i64 (Fi.col ns k f : Nat)] 3)).heap.size from Nat.le_trans hB'.size HKQ.out.size)
                have HLn := Lib.hid (show (Fi.cols ns (l.take i) k).length ≤ 1000000000000 by unfold Fi.cols; simp; omega)
                have hpt := Lib.hid (fun w1 v' h1 h2 => HR'.out.put (w1 := w1) (v' := v') (x := (Fi.col ns k f : Int)) hk HKQ.out (by simp only [Nat.lt_irrefl, if_false]; exact h1) h2 HB'.out.size (fun L e => by cases e; exact (Array.getElem?_eq_some_iff.1 HL'.out).1))
                have hcs := Lib.hid (show upC (fun j => if j < k then Fi.cols ns (l.take (i + 1)) j else Fi.cols ns (l.take i) j) k (Fi.col ns k f : Int) = (fun j => if j < k + 1 then Fi.cols ns (l.take (i + 1)) j else Fi.cols ns (l.take i) j) from by
                  funext j
                  unfold upC
                  by_cases e : j = k
                  · subst e
                    simp only [if_true, Nat.lt_irrefl, if_false]
                    rw [if_pos (by omega), HCS.out j]
                  · rw [if_neg e]
                    show (if j < k then Fi.cols ns (l.take (i + 1)) j else Fi.cols ns (l.take i) j) = _
                    by_cases h : j < k
                    · rw [if_pos h, if_pos (by omega)]
                    · rw [if_neg h, if_neg (by omega)])
                have p1 : decide ((k : Int) < 4) = true := decide_eq_true (by omega)
                have p2 : decide (k < 4) = true := decide_eq_true hk
                rw [hvk] at c5 hpt HIR
                have HIR2 := Lib.hid HIR.out
                clear hR' hB' hK' hL' hir kq
                generalize hcol : (Fi.col ns k f : Nat) = cv at c6 HQ HKQ HZ hpt hcs HIR HIR2
                generalize hold : Fi.cols ns (l.take i) k = old at c5 hpt HLn HIR HIR2 hvk
                have HVK := Lib.hid hvk
                clear hvk
                go_wp2_with (at_builtin; refine wpList_appI rfl _ _ rfl w2.heap.size (.slice Ak old.length ck) old rfl HIR2.out wq.heap.size (cv : Int) 3 (0, 0) rfl HQ.out HLn.out HZ.out ?_)
                intro v' w1 hown hhop
                obtain ⟨Av', cv', rfl, _⟩ := hown.reads
                have hll : (old ++ [((cv : Nat) : Int)]).length = old.length + 1 := by simp
                rw [hll] at hown hhop ⊢
                obtain ⟨k1, k2, k3, k4⟩ := hpt.out w1 _ hown hhop
                rw [hcs.out] at k1
                have K1 := Lib.hid k1
                have K2 := Lib.hid (Below.trans HB'.out k2)
                have K3 := Lib.hid (HK'.out.trans k3)
                have K4 := Lib.hid (k4 _ _ _ rfl HL'.out)
                have hhop2 : Hop (wq.alloc (.cells #[.int .i64 (cv : Nat)] 3)) w1 (vs' k).ownBlock (Value.slice Av' (old.length + 1) cv').ownBlock := by rw [HVK.out]; exact hhop
                have hq5 := HR'.out.still hk HKQ.out hhop2
                have hc5 : w1.cell? ⟨w2.heap.size, k, none⟩ = some (vs' k) := by rw [(blk_facts hq5).1 k]; match k, hk with | 0, _ => rfl | 1, _ => rfl | 2, _ => rfl | 3, _ => rfl
                have hf5 := (blk_facts hq5).2 k
                clear hhop2 hq5
                clear hown hhop k1 k2 k3 k4
                go_wp2
                go_roundw
                case rel => exact ⟨k + 1, by omega, by go_num, ⟨_, K1.out⟩, K2.out, K3.out, K4.out⟩
                case measure => simp [intOf]; omega
              · have hR2 := Lib.hid (show RowsAt wq w2.heap.size w2.heap.size (Fi.cols ns (l.take (i + 1))) none vs' from (hR'.grow (no' := none) (Below.refl _ _) (fun L e => by cases e)).congr (fun j hj => if_pos (by omega)))
                have hD2 := Lib.hid (hK'.row HDX.out (by decide) (by decide))
                have p1 : decide ((k : Int) < 4) = false := decide_eq_false (by omega)
                clear hR' hB' hK' hL'
                go_wp2
                go_roundw
                case rel => exact ⟨i + 1, by omega, by go_num, ⟨_, hR2.out⟩, hD2.out, HB'.out⟩
                case measure => simp [intOf]; omega
          | false =>
            rw [hc] at e3
            have HSZ := Lib.hid (show ((f.data.length : Int) + 1) = ((Fi.size f : Nat) : Int) by unfold Fi.size; rw [hc]; simp)
            have hbyt : f.bytes = f.data := by unfold Fi.bytes; rw [hc]; rfl
            have HBS := Lib.hid HBF5.out.src
            have HDC := Lib.hid (fun g hg => brow_cells HD5.out (g := g) hg)
            have HZ5 := Lib.hid HB5.out.size
            rw [hbyt] at HAS
            clear hc hbyt
            go_wp2_with (at_builtin; refine wpList_append_row rfl _ _ 27 27 rfl w2.heap.size 5 i2 (.int .u8 0) 1 1 Try.underlying27 hi2 hz02 hz12 hz22 rfl (.slice Ad dat.length cd) _ _ rfl HD5.out _ f.data.length (cb f.data) rfl ?_ HBS.out (by unfold maxLen; omega) (by omega) HZ5.out)
            intro vd w6 hown hhop
            have hBR : BRow w6 w2.heap.size 5 vd (Fi.all (l.take (i + 1))) := by rw [HAS.out]; exact BRow.app hown rfl
            obtain ⟨Ad', cd', rfl, _⟩ := hBR.at_
            have HDX := Lib.hid hBR
            have HR := Lib.hid (HR5.out.hop (no' := none) hhop.1 (fun g hg c fr t hh => by
              obtain ⟨_, cur, h5⟩ := HDC.out g hg
              rw [h5] at hh
              injection hh with hh
              injection hh with _ hh _
              subst hh
              exact ⟨by decide, by decide⟩) (fun L e => by cases e))
            have HBX := Lib.hid (HB5.out.trans (hhop.below HZ5.out (fun k hk => (HDC.out k hk).1)))
            have q6 := (hhop.1.block wr.heap.size (Array.getElem?_eq_some_iff.1 HQ5.out).1 (fun e => by
              obtain ⟨_, cur, h5⟩ := HDC.out _ e.symm
              rw [HQ5.out] at h5
              injection h5 with h5
              injection h5 with _ h5 _
              exact absurd h5 (by decide))).trans HQ5.out
            have e1 : w6.cell? ⟨wr.heap.size, 1, none⟩ = some (.int .u16 (f.date : Int)) := (blk_facts q6).1 1
            have e2 : w6.cell? ⟨wr.heap.size, 2, none⟩ = some (.int .u16 (f.clock : Int)) := (blk_facts q6).1 2
            clear hown hhop hBR q6
            have hdd : (f.date : Int) ≤ 65535 := by have := hok.1; omega
            have hcc : (f.clock : Int) ≤ 65535 := by have := hok.2; omega
            have hL0 := heap_alloc_new w6 (.cells #[.int .i64 (Fi.num ns f.name : Nat), .int .i64 (f.date : Int), .int .i64 (f.clock : Int), .int .i64 ((f.data.length : Int) + 1)] 3)
            have kX := (Below.refl w6.heap.size w6).alloc (Nat.le_refl _) (.cells #[.int .i64 (Fi.num ns f.name : Nat), .int .i64 (f.date : Int), .int .i64 (f.clock : Int), .int .i64 ((f.data.length : Int) + 1)] 3)
            have HL0 := Lib.hid hL0
            have HKX := Lib.hid kX
            clear hL0 kX
            go_wp2_with fail
            go_loopw [69] (fun u wq => ∃ k : Nat, k ≤ 4 ∧ u = .int .i64 k ∧ (∃ vs', RowsAt wq w2.heap.size w2.heap.size (fun j => if j < k then Fi.cols ns (l.take (i + 1)) j else Fi.cols ns (l.take i) j) (some w6.heap.size) vs') ∧ Below w2.heap.size w2 wq ∧ KB 3 43 w6 wq ∧ wq.heap[w6.heap.size]? = some (.cells #[.int .i64 (Fi.num ns f.name : Nat), .int .i64 (f.date : Int), .int .i64 (f.clock : Int), .int .i64 ((f.data.length : Int) + 1)] 3 (0, 0))) (fun u _ => 4 - (intOf u).toNat)
            case atStart => exact ⟨0, by omega, rfl, ⟨vs, (HR.out.grow (no' := some w6.heap.size) HKX.out (fun L e => by cases e; exact .inl (Nat.le_refl _))).congr (fun j hj => rfl)⟩, Below.trans HBX.out (HKX.out.mono HBX.out.size), KB.of_below HKX.out, HL0.out⟩
            case round =>
              rename World => wq
              obtain ⟨k, hk4, rfl, ⟨vs', hR'⟩, hB', hK', hL'⟩ := hrel
              have HR' := Lib.hid hR'
              have HB' := Lib.hid hB'
              have HK' := Lib.hid hK'
              have HL' := Lib.hid hL'
              by_cases hk : k < 4
              · obtain ⟨Ak, ck, hvk, _⟩ := (hR'.row k hk).reads
                have c5 := hR'.cell hk
                have c6 : wq.cell? ⟨w6.heap.size, k, none⟩ = some (.int .i64 (Fi.col ns k f : Nat)) := by
                  rw [(blk_facts hL').1 k]
                  match k, hk with
                  | 0, _ => rfl
                  | 1, _ => rfl
                  | 2, _ => rfl
                  | 3, _ => show some (Value.int .i64 ((f.data.length : Int) + 1)) = some (.int .i64 ((Fi.size f : Nat) : Int)); rw [HSZ.out]
                simp only [Nat.lt_irrefl, if_false] at hvk
                have hir := hR'.row k hk
                simp only [Nat.lt_irrefl, if_false] at hir
                have kq := (Below.refl wq.heap.size wq).alloc (Nat.le_refl _) (.cells #[.int .i64 (Fi.col ns k f : Nat)] 3)
                have HIR := Lib.hid (hir.grow kq)
                have HKQ := Lib.hid kq
                have HQ := Lib.hid (heap_alloc_new wq (.cells #[.int .i64 (Fi.col ns k f : Nat)] 3))
                have HZ := Lib.hid (show w2.heap.size ≤ (wq.alloc (.cells #[.int .i64 (Fi.col ns k f : Nat)] 3)).heap.size from Nat.le_trans hB'.size HKQ.out.size)
                have HLn := Lib.hid (show (Fi.cols ns (l.take i) k).length ≤ 1000000000000 by unfold Fi.cols; simp; omega)
                have hpt := Lib.hid (fun w1 v' h1 h2 => HR'.out.put (w1 := w1) (v' := v') (x := (Fi.col ns k f : Int)) hk HKQ.out (by simp only [Nat.lt_irrefl, if_false]; exact h1) h2 HB'.out.size (fun L e => by cases e; exact (Array.getElem?_eq_some_iff.1 HL'.out).1))
                have hcs := Lib.hid (show upC (fun j => if j < k then Fi.cols ns (l.take (i + 1)) j else Fi.cols ns (l.take i) j) k (Fi.col ns k f : Int) = (fun j => if j < k + 1 then Fi.cols ns (l.take (i + 1)) j else Fi.cols ns (l.take i) j) from by
                  funext j
                  unfold upC
                  by_cases e : j = k
                  · subst e
                    simp only [if_true, Nat.lt_irrefl, if_false]
                    rw [if_pos (by omega), HCS.out j]
                  · rw [if_neg e]
                    show (if j < k then Fi.cols ns (l.take (i + 1)) j else Fi.cols ns (l.take i) j) = _
                    by_cases h : j < k
                    · rw [if_pos h, if_pos (by omega)]
                    · rw [if_neg h, if_neg (by omega)])
                have p1 : decide ((k : Int) < 4) = true := decide_eq_true (by omega)
                have p2 : decide (k < 4) = true := decide_eq_true hk
                rw [hvk] at c5 hpt HIR
                have HIR2 := Lib.hid HIR.out
                clear hR' hB' hK' hL' hir kq
                generalize hcol : (Fi.col ns k f : Nat) = cv at c6 HQ HKQ HZ hpt hcs HIR HIR2
                generalize hold : Fi.cols ns (l.take i) k = old at c5 hpt HLn HIR HIR2 hvk
                have HVK := Lib.hid hvk
                clear hvk
                go_wp2_with (at_builtin; refine wpList_appI rfl _ _ rfl w2.heap.size (.slice Ak old.length ck) old rfl HIR2.out wq.heap.size (cv : Int) 3 (0, 0) rfl HQ.out HLn.out HZ.out ?_)
                intro v' w1 hown hhop
                obtain ⟨Av', cv', rfl, _⟩ := hown.reads
                have hll : (old ++ [((cv : Nat) : Int)]).length = old.length + 1 := by simp
                rw [hll] at hown hhop ⊢
                obtain ⟨k1, k2, k3, k4⟩ := hpt.out w1 _ hown hhop
                rw [hcs.out] at k1
                have K1 := Lib.hid k1
                have K2 := Lib.hid (Below.trans HB'.out k2)
                have K3 := Lib.hid (HK'.out.trans k3)
                have K4 := Lib.hid (k4 _ _ _ rfl HL'.out)
                have hhop2 : Hop (wq.alloc (.cells #[.int .i64 (cv : Nat)] 3)) w1 (vs' k).ownBlock (Value.slice Av' (old.length + 1) cv').ownBlock := by rw [HVK.out]; exact hhop
                have hq5 := HR'.out.still hk HKQ.out hhop2
                have hc5 : w1.cell? ⟨w2.heap.size, k, none⟩ = some (vs' k) := by rw [(blk_facts hq5).1 k]; match k, hk with | 0, _ => rfl | 1, _ => rfl | 2, _ => rfl | 3, _ => rfl
                have hf5 := (blk_facts hq5).2 k
                clear hhop2 hq5
                clear hown hhop k1 k2 k3 k4
                go_wp2
                go_roundw
                case rel => exact ⟨k + 1, by omega, by go_num, ⟨_, K1.out⟩, K2.out, K3.out, K4.out⟩
                case measure => simp [intOf]; omega
              · have hR2 := Lib.hid (show RowsAt wq w2.heap.size w2.heap.size (Fi.cols ns (l.take (i + 1))) none vs' from (hR'.grow (no' := none) (Below.refl _ _) (fun L e => by cases e)).congr (fun j hj => if_pos (by omega)))
                have hD2 := Lib.hid (hK'.row HDX.out (by decide) (by decide))
                have p1 : decide ((k : Int) < 4) = false := decide_eq_false (by omega)
                clear hR' hB' hK' hL'
                go_wp2
                go_roundw
                case rel => exact ⟨i + 1, by omega, by go_num, ⟨_, hR2.out⟩, hD2.out, HB'.out⟩
                case measure => simp [intOf]; omega
        · rw [List.take_of_length_le (by omega)] at hR HAd0 ⊢
          have HC := Lib.hid hR.cols
          have HNr := Lib.hid (HN.out.grow hB)
          clear hR hD hB
          go_wp2
          go_ret3
          obtain rfl := HNS.out
          exact ⟨An, cn, _, Ad, cd, rfl, HNr.out, HC.out, HAd0.out, Below.after' J2.out HBi.out (Nat.le_refl _)⟩
end Go.Proofs.Ytdgoffpfcgipkaa
