/- The walk of layer 16's document: the bytes of constants. -/
import Derived.Test.YtimheacdaafodaaBigRef
import Derived.Test.YtimheacdaafodaaOut
import Derived.Test.YtimheacdaafodaaRaws
import Derived.Deep.RegionLaw
import Derived.Deep.CutRange
namespace Go.Proofs.Ytimheacdaafodaa
open Go.RowKit

theorem wrap_u64 {n : Nat} (h : n < 18446744073709551616) : IntKind.u64.wrap (n : Int) = n := by rw [IntKind.wrap_u64]; omega
/-- A call at a step of a region that draws its order. -/
theorem step_call {P : Program} {w : World} {ops : Array Oper} {o : Oper} {a : Act} {K : Act → World → Prop} {Q : Exit → Act → World → Prop} {E : Prop} {R : Value → World → Prop} (hgd : o.guard = none) (f : FuncId) (args : Array Value)
    (hrun : (execOp a.eval o).run P w = .ok (.enter f args) w) (hc : Calls P f args w fun e w' => ∃ v, e = .returned v ∧ R v w') (h : ∀ v w', R v w' → K (a.put o.dst v) w') :
    if Region.wanted o (yielded ops a.tmps) = true then Oper.wp P o a w K Q else E := by
  rw [if_pos (by simp [Region.wanted, hgd])]
  unfold Oper.wp
  rw [hrun]
  simp only [Oper.upon]
  exact hc.mono fun e w'' ⟨v, he, hr⟩ => by subst he; exact h v w'' hr
theorem step_appBy {w : World} {ops : Array Oper} {o : Oper} {a : Act} {K : Act → World → Prop} {Q : Exit → Act → World → Prop} {E : Prop} (hgd : o.guard = none) (s x : Operand) (tx : TypeId)
    (ho : o.op = .call { callee := .builtin .append, args := #[s, x], argTypes := #[46, tx] })
    (base : Nat) (v : Value) (l m : List UInt8) (hv : a.eval s = v) (hown : BRow w base 5 v l)
    (X : Value) (hX : a.eval x = X) (hs : Src Try.prog 1 tx X m.length (cb m) w) (hn : l.length + m.length ≤ 100000000000) (hbase : base ≤ w.heap.size)
    (h : ∀ v' w', BRow w' base 5 v' (l ++ m) → Hop w w' v.ownBlock v'.ownBlock → K (a.put o.dst v') w') :
    if Region.wanted o (yielded ops a.tmps) = true then Oper.wp Try.prog o a w K Q else E := by
  obtain ⟨i0, hi, hz0, hz1, hz2⟩ := info_parts infoByte
  exact step_append_row hgd s x 46 tx ho base 5 i0 _ 1 1 Try.underlying46 hi hz0 hz1 hz2 rfl v _ _ hv hown X m.length (cb m) hX (fun v' w' h1 h2 => h v' w' (BRow.app h1 rfl) h2) hs (by unfold maxLen; omega) (by omega) hbase
/-- A text's bytes, as a source. -/
theorem src_made (w : World) (l : List UInt8) (cap : Nat) (c : Nat) (fr : Nat × Nat) {y : World} (hy : y.heap[w.heap.size]? = some (.cells (bytesRow (bs l) cap) 5 fr)) :
    Src Try.prog 1 46 (.slice (some ⟨w.heap.size, 0, none⟩) l.length c) l.length (cb l) y := by
  refine Src.ofSlice y Try.underlying46 ⟨w.heap.size, 0, none⟩ _ c (cb l) (by simp [cb]) (fun j u hu => ?_) (fun u hu => ?_)
  · rw [addr_addB, Nat.zero_add]
    obtain ⟨x, hx, rfl⟩ : ∃ x, l[j]? = some x ∧ u = .int .u8 (x.toNat : Int) := by
      simp only [cb, List.getElem?_map, Option.map_eq_some_iff] at hu
      obtain ⟨x, h1, h2⟩ := hu
      exact ⟨x, h1, h2.symm⟩
    obtain ⟨h1, rfl⟩ := List.getElem?_eq_some_iff.1 hx
    simp only [World.cell?, hy]
    unfold bytesRow bs
    rw [Array.getElem?_append_left (by simpa using h1)]
    simp [h1]
  · simp only [cb, List.mem_map] at hu
    obtain ⟨x, _, rfl⟩ := hu
    rfl
theorem rbig_row {w : World} {base : Nat} {u : Value} {l : List UInt8} (h : BRow w base 5 u l) (hb : l.length ≤ 1000000000) (v n : Nat) (hv : v < 18446744073709551616) (hn : n = 1 ∨ n = 2 ∨ n = 4 ∨ n = 8) (hbase : base ≤ w.heap.size) :
    Calls Try.prog 40 #[u, .int .u64 v, .int .i64 n] w fun e w' => ∃ u', e = .returned u' ∧ BRow w' base 5 u' (l ++ bigB n v) ∧ Below w.heap.size w w' := by
  obtain ⟨A, c, rfl, hx⟩ := h.at_
  refine (rbig_any A c l v n w hx hb hv hn).mono ?_
  rintro e w' ⟨u', rfl, hr, hb'⟩
  exact ⟨u', rfl, ⟨hr.1, hr.2.imp_right fun ⟨g, cap, cur, h1, h2, h3⟩ => ⟨g, cap, cur, h1, Nat.le_trans hbase h2, h3⟩⟩, hb'⟩
set_option maxRecDepth 100000 in
set_option maxHeartbeats 8000000 in
theorem rbytes_any (A : Option Addr) (c : Nat) (L : List Rw) (w : World) (hx : Raws w A c L) (hL : L.length ≤ 10000) (hf : ∀ r ∈ L, r.fit) :
    Calls Try.prog 19 #[.slice A L.length c] w fun e w' => ∃ u, e = .returned u ∧ BRow w' w.heap.size 5 u (Rw.bytes L) ∧ Below w.heap.size w w' := by
  have HX := Lib.hid hx
  have HF := Lib.hid hf
  have HC := Lib.hid (rbig_any none 0 [] L.length 2 w (BAt.nil _ _ _) (by simp) (by omega) (by simp))
  clear hx hf
  go_enter Try.func19, Try.ntmps19
  go_wp2_with fail
  refine HC.out.mono ?_
  rintro e w1 ⟨u1, rfl, hr1, hb1⟩
  have HR1 := Lib.hid hr1
  have HB1 := Lib.hid hb1
  clear hr1 hb1 HC
  go_wp2_with fail
  go_loopw [3, 12] (fun u t wr => ∃ i : Nat, i ≤ L.length ∧ t = .int .i64 i ∧ BRow wr w.heap.size 5 u (Rw.bytesTo L i) ∧ Below w.heap.size w wr) (fun _ t _ => L.length - (intOf t).toNat)
  case atStart => exact ⟨0, Nat.zero_le _, rfl, by rw [Rw.bytesTo_zero]; exact HR1.out, HB1.out⟩
  case round =>
    obtain ⟨i, hil, rfl, hr, hB⟩ := hrel
    have MR := Lib.hid hr
    have MB := Lib.hid hB
    clear hr hB HR1 HB1
    by_cases hi : i < L.length
    · obtain ⟨g, o, r, rfl, hg, hv, c0, c1, c2, c3, c4⟩ := (HX.out.grow MB.out).at_ hi
      have p1 : decide ((i : Int) < (L.length : Int)) = true := decide_eq_true (by omega)
      have p2 : decide (i < L.length) = true := decide_eq_true hi
      by_cases h0 : i = 0
      · subst h0
        simp only [Nat.zero_mul, Nat.add_zero] at c0 c1 c2 c3 c4
        have k1 := Lib.hid (show Below w.heap.size w (wr.alloc (.cells #[.int .i64 r.tag, .string (bs r.text), .int .u64 r.bits, .int .i64 r.a, .int .i64 r.b] 49)) from MB.out.alloc MB.out.size _)
        have R2 := Lib.hid (show BRow (wr.alloc (.cells #[.int .i64 r.tag, .string (bs r.text), .int .u64 r.bits, .int .i64 r.a, .int .i64 r.b] 49)) w.heap.size 5 u3 (Rw.bytesTo L (0 + 1)) from by
          rw [Rw.bytesTo_one, ← Rw.bytesTo_zero]; exact MR.out.grow ((Below.refl _ _).alloc (Nat.le_refl _) _))
        go_wp2_with fail
        go_roundw
        case rel => exact ⟨0 + 1, by omega, by go_num, R2.out, k1.out⟩
        case measure => simp [intOf]; omega
      · have p3 : ((i : Int) == 0) = false := by rw [beq_eq_false_iff_ne]; omega
        have HN := Lib.hid (Rw.bytesTo_next hv (by omega))
        have HFT := Lib.hid (HF.out r (List.mem_of_getElem? hv))
        have HLN := Lib.hid (Rw.bytesTo_len L hL HF.out i)
        have k1 := Lib.hid (show Below wr.heap.size wr (wr.alloc (.cells #[.int .i64 r.tag, .string (bs r.text), .int .u64 r.bits, .int .i64 r.a, .int .i64 r.b] 49)) from (Below.refl _ _).alloc (Nat.le_refl _) _)
        have q1 := Lib.hid (show RBox (wr.alloc (.cells #[.int .i64 r.tag, .string (bs r.text), .int .u64 r.bits, .int .i64 r.a, .int .i64 r.b] 49)) wr.heap.size r from heap_alloc_new _ _)
        clear hv
        generalize Rw.bytesTo L i = acc at *
        have hfm := Lib.hid (fun w => form_any r.tag w)
        go_wp2_with fail
        generalize wr.alloc (.cells #[.int .i64 r.tag, .string (bs r.text), .int .u64 r.bits, .int .i64 r.a, .int .i64 r.b] 49) = W at k1 q1 ⊢
        have MB1 := Lib.hid (MB.out.trans (k1.out.mono MB.out.size))
        have MR1 := Lib.hid (MR.out.grow k1.out)
        obtain ⟨d0, d1, d2, d3, d4⟩ := q1.out.at_
        have hz := q1.out.lt
        clear c0 c1 c2 c3 c4 p1 p2 k1 MB MR
        by_cases hfz : Pv.form r.tag = 0
        · rw [hfz] at hfm
          refine (hfm.out _).mono ?_
          rintro e w3 ⟨rfl, rfl⟩
          have ho : r.out = [] := by unfold Rw.out; rw [if_pos hfz]
          rw [ho, List.append_nil] at HN
          go_wp2_with fail
          go_roundw
          case rel => exact ⟨i + 1, by omega, by go_num, by rw [HN.out]; exact MR1.out, MB1.out⟩
          case measure => simp [intOf]; omega
        · have htr : 1 ≤ r.tag ∧ r.tag ≤ 12 := by
            unfold Pv.form at hfz
            omega
          have htag := Lib.hid (show r.tag = ((UInt8.ofNat r.tag.toNat).toNat : Int) by rw [u8_toNat]; omega)
          have hfm2 := hfm
          refine (hfm.out _).mono ?_
          rintro e w3 ⟨rfl, rfl⟩
          have hln := HLN.out
          obtain ⟨hft, hfb, hfa, hfb2⟩ := HFT.out
          have p5 : (Pv.form r.tag == 0) = false := by simpa using hfz
          have kz := Lib.hid (fun x => (Below.refl w3.heap.size w3).alloc (Nat.le_refl _) (.cells #[.int .u8 x] 5))
          clear hfm
          generalize Pv.form r.tag = z at p5
          go_wp2_with (at_builtin; refine wpList_appBy rfl _ _ _ rfl w.heap.size _ acc [UInt8.ofNat r.tag.toNat] rfl (MR1.out.grow (kz.out _)) _ rfl (src_byte (heap_alloc_new _ _) _ htag.out) (by simp; omega) (Nat.le_trans MB1.out.size (kz.out _).size) ?_; intro v4 w4 hr4 hp4; have q4 := Lib.hid (show RBox w4 wr.heap.size r from (hp4.1.block _ (by have := q1.out.lt; simp; omega) (own_ne MR1.out q1.out (by decide))).trans (q1.out.keep (kz.out _) q1.out.lt)); clear d0 d1 d2 d3 d4 hz; obtain ⟨d0, d1, d2, d3, d4⟩ := q4.out.at_; have hz := q4.out.lt)
          have N4 := Lib.hid hr4
          have NB4 := Lib.hid ((MB1.out.trans ((kz.out _).mono MB1.out.size)).trans (hp4.below (Nat.le_trans MB1.out.size (kz.out _).size) (fun k hk => (World.ownsRow.lt MR1.out k hk).1)))
          clear hr4 hp4 q1
          by_cases h3 : r.tag = 3 ∨ r.tag = 4
          · have hz2 : Pv.form r.tag = 52 := by rcases h3 with h | h <;> rw [h] <;> rfl
            have HO := Lib.hid (show r.out = [UInt8.ofNat r.tag.toNat] ++ bigB 4 r.bits by unfold Rw.out; rw [hz2]; rcases h3 with h | h <;> simp [h])
            rw [hz2] at hfm2
            refine (hfm2.out _).mono ?_
            rintro e w5 ⟨rfl, rfl⟩
            have HBG := Lib.hid (rbig_row N4.out (by simp; omega) r.bits 4 (by omega) (by simp) NB4.out.size)
            go_wp2_with fail
            refine HBG.out.mono ?_
            rintro e w6 ⟨u6, rfl, hr6, hb6⟩
            have N6 := Lib.hid (show BRow w6 w.heap.size 5 u6 (Rw.bytesTo L (i + 1)) from by rw [HN.out, HO.out, ← List.append_assoc]; exact hr6)
            have NB6 := Lib.hid (NB4.out.trans (hb6.mono NB4.out.size))
            clear hr6 hb6 HBG
            go_wp2_with fail
            go_roundw
            case rel => exact ⟨i + 1, by omega, by go_num, N6.out, NB6.out⟩
            case measure => simp [intOf]; omega
          by_cases h5 : r.tag = 5 ∨ r.tag = 6
          · have hz2 : Pv.form r.tag = 56 := by rcases h5 with h | h <;> rw [h] <;> rfl
            have HO := Lib.hid (show r.out = [UInt8.ofNat r.tag.toNat] ++ bigB 8 r.bits by unfold Rw.out; rw [hz2]; rcases h5 with h | h <;> simp [h])
            rw [hz2] at hfm2
            refine (hfm2.out _).mono ?_
            rintro e w5 ⟨rfl, rfl⟩
            have HBG := Lib.hid (rbig_row N4.out (by simp; omega) r.bits 8 (by omega) (by simp) NB4.out.size)
            go_wp2_with fail
            refine HBG.out.mono ?_
            rintro e w6 ⟨u6, rfl, hr6, hb6⟩
            have N6 := Lib.hid (show BRow w6 w.heap.size 5 u6 (Rw.bytesTo L (i + 1)) from by rw [HN.out, HO.out, ← List.append_assoc]; exact hr6)
            have NB6 := Lib.hid (NB4.out.trans (hb6.mono NB4.out.size))
            clear hr6 hb6 HBG
            go_wp2_with fail
            go_roundw
            case rel => exact ⟨i + 1, by omega, by go_num, N6.out, NB6.out⟩
            case measure => simp [intOf]; omega
          by_cases h7 : r.tag = 7 ∨ r.tag = 8
          · have hz2 : Pv.form r.tag = 97 := by rcases h7 with h | h <;> rw [h] <;> rfl
            have HO := Lib.hid (show r.out = [UInt8.ofNat r.tag.toNat] ++ bigB 2 r.a by unfold Rw.out; rw [hz2]; rcases h7 with h | h <;> simp [h])
            rw [hz2] at hfm2
            refine (hfm2.out _).mono ?_
            rintro e w5 ⟨rfl, rfl⟩
            have HBG := Lib.hid (rbig_row N4.out (by simp; omega) r.a 2 (by omega) (by simp) NB4.out.size)
            go_wp2_with fail
            refine HBG.out.mono ?_
            rintro e w6 ⟨u6, rfl, hr6, hb6⟩
            have N6 := Lib.hid (show BRow w6 w.heap.size 5 u6 (Rw.bytesTo L (i + 1)) from by rw [HN.out, HO.out, ← List.append_assoc]; exact hr6)
            have NB6 := Lib.hid (NB4.out.trans (hb6.mono NB4.out.size))
            clear hr6 hb6 HBG
            go_wp2_with fail
            go_roundw
            case rel => exact ⟨i + 1, by omega, by go_num, N6.out, NB6.out⟩
            case measure => simp [intOf]; omega
          by_cases h1 : r.tag = 1
          · have hz2 : Pv.form r.tag = 116 := by rw [h1]; rfl
            have HO := Lib.hid (show r.out = [UInt8.ofNat r.tag.toNat] ++ (bigB 2 r.text.length ++ r.text) by unfold Rw.out; rw [hz2]; simp [h1])
            rw [hz2] at hfm2
            refine (hfm2.out _).mono ?_
            rintro e w5 ⟨rfl, rfl⟩
            go_upto_region 9 with fail
            have hwa : IntKind.u64.wrap (r.text.length : Int) = r.text.length := wrap_u64 (by omega)
            have hzl := bs_size r.text
            have hcv := fun x => run_bytes_of_string x 9 46 5 (bs r.text) Try.underlying9 Try.underlying46 Try.underlying5
            rw [hzl] at hcv
            have NBs := NB4.out.size
            go_region_law ((first
              | (refine step_call rfl 40 #[v4, .int .u64 (r.text.length : Int), .int .i64 2] ?_ (rbig_row (N4.out.grow (by (repeat (first | exact Below.refl _ _ | refine Below.drew ?_ | refine Below.alloc ?_ ?_ _)); (all_goals (first | omega | (simp; done) | (simp; omega))))) (by simp; omega) r.text.length 2 (by omega) (by simp) (by first | exact NBs | (simp; omega))) ?_; (focus (go_simp; done)); rintro v6 x6 ⟨hr6, hb5⟩; have hb6 : Below w5.heap.size w5 x6 := Below.trans (by (repeat (first | exact Below.refl _ _ | refine Below.drew ?_ | refine Below.alloc ?_ ?_ _)); (all_goals (first | omega | (simp; done) | (simp; omega)))) (hb5.mono (by first | exact Nat.le_refl _ | (simp; done) | (simp; omega))); have hb6s := Nat.le_trans NB4.out.size hb6.size; have hb6z := hb6.size; have q6 := Lib.hid (q4.out.keep hb6 q4.out.lt); obtain ⟨d0', d1', d2', d3', d4'⟩ := q6.out.at_; have hz' := q6.out.lt)
              | (refine step_appBy rfl _ _ _ rfl w.heap.size _ _ r.text rfl (by first | exact hr6 | (refine hr6.grow ?_; (repeat (first | exact Below.refl _ _ | refine Below.drew ?_ | refine Below.alloc ?_ ?_ _)); (all_goals (first | omega | (simp; done) | (simp; omega))))) _ rfl (src_made _ r.text _ _ _ (by first | exact heap_alloc_new _ _ | exact (hb5.block _ (by simp)).trans (heap_alloc_new _ _))) (by simp [bigB_len]; omega) (by first | exact hb6s | (simp; omega)) ?_; intro v7 x7 hr7 hp7; have NB7 : Below w.heap.size w x7 := Below.trans (NB4.out.trans (Below.mono (Below.trans hb6 (by (repeat (first | exact Below.refl _ _ | refine Below.drew ?_ | refine Below.alloc ?_ ?_ _)); (all_goals (first | omega | (simp; done) | (simp; omega))))) NB4.out.size)) (hp7.below (by first | exact hb6s | (simp; omega)) (fun k hk => (World.ownsRow.lt hr6 k hk).1)))))
            all_goals
              have N7 := Lib.hid (show BRow x7 w.heap.size 5 v7 (Rw.bytesTo L (i + 1)) from by rw [HN.out, HO.out, ← List.append_assoc, ← List.append_assoc]; exact hr7)
              have NB8 := Lib.hid NB7
              clear hr6 hb5 hb6 hr7 hp7 NB7 d0 d1 d2 d3 d4 hz d0' d1' d2' d3' d4' hz' hcv hwa hzl
              go_wp2_with fail
              go_roundw
              case rel => exact ⟨i + 1, by omega, by go_num, N7.out, NB8.out⟩
              case measure => simp [intOf]; omega
          · have h9 : r.tag = 9 ∨ r.tag = 10 ∨ r.tag = 11 ∨ r.tag = 12 := by (unfold Pv.form at hfz; omega)
            have hz2 : Pv.form r.tag = 98 := by rcases h9 with h | h | h | h <;> rw [h] <;> rfl
            have HO := Lib.hid (show r.out = [UInt8.ofNat r.tag.toNat] ++ (bigB 2 r.a ++ bigB 2 r.b) by unfold Rw.out; rw [hz2, if_neg (by decide), if_neg h1, if_neg h3, if_neg h5, if_neg h7]; rfl)
            rw [hz2] at hfm2
            refine (hfm2.out _).mono ?_
            rintro e w5 ⟨rfl, rfl⟩
            go_upto_region 17 with fail
            have hwa : IntKind.u64.wrap (r.a : Int) = r.a := wrap_u64 (by omega)
            have hwb : IntKind.u64.wrap (r.b : Int) = r.b := wrap_u64 (by omega)
            go_region_law ((first
              | (refine step_call rfl 40 #[v4, .int .u64 (r.a : Int), .int .i64 2] ?_ (rbig_row (N4.out.grow (Below.refl _ _).drew) (by simp; omega) r.a 2 (by omega) (by simp) NB4.out.size) ?_; (focus (go_simp; done)); rintro v6 x6 ⟨hr6, hb6⟩; have hb6s := Nat.le_trans NB4.out.size hb6.size; have q6 := Lib.hid (q4.out.keep ((Below.refl _ _).drew.trans hb6) q4.out.lt); clear d0 d1 d2 d3 d4 hz; obtain ⟨d0, d1, d2, d3, d4⟩ := q6.out.at_; have hz := q6.out.lt)
              | (refine step_call rfl 40 #[v6, .int .u64 (r.b : Int), .int .i64 2] ?_ (rbig_row hr6 (by simp [bigB_len]; omega) r.b 2 (by omega) (by simp) hb6s) ?_; (focus (go_simp; done)); rintro v7 x7 ⟨hr7, hb7⟩)))
            all_goals
              have N6 := Lib.hid (show BRow x7 w.heap.size 5 v7 (Rw.bytesTo L (i + 1)) from by rw [HN.out, HO.out, ← List.append_assoc, ← List.append_assoc]; exact hr7)
              have NB6 := Lib.hid (NB4.out.trans ((((Below.refl _ _).drew.trans hb6).trans (hb7.mono ((Below.refl _ _).drew.trans hb6).size)).mono NB4.out.size))
              clear hr6 hb6 hr7 hb7 d0 d1 d2 d3 d4 hz
              go_wp2_with fail
              go_roundw
              case rel => exact ⟨i + 1, by omega, by go_num, N6.out, NB6.out⟩
              case measure => simp [intOf]; omega
    · obtain rfl : i = L.length := by omega
      have p1 : decide ((L.length : Int) < (L.length : Int)) = false := decide_eq_false (by omega)
      have p2 : decide (L.length < L.length) = false := decide_eq_false (by omega)
      rw [Rw.bytesTo_all] at MR
      go_wp2_with fail
      go_ret
      exact ⟨_, rfl, MR.out, MB.out⟩
end Go.Proofs.Ytimheacdaafodaa
