/- The walk of layer 16: the bytes of constants, by the program: the whole call. -/
import Derived.Test.YtimheacdaafodaaPBytes
namespace Go.Proofs.Ytimheacdaafodaa
open Go.RowKit

theorem tag1_row (v : Value) (w : World) : Calls Try.prog 95 #[v] w fun e w' => ∃ v, e = .returned v ∧ (v = .int .i64 1 ∧ Below w.heap.size w w') := by
  refine (tag1_any v w).mono ?_
  rintro e w' ⟨rfl, h⟩
  exact ⟨_, rfl, rfl, h⟩
theorem tag2_row (t n : Int) (w : World) : Calls Try.prog 96 #[.agg #[.int .i64 t, .int .u64 n]] w fun e w' => ∃ v, e = .returned v ∧ (v = .int .i64 t ∧ Below w.heap.size w w') := by
  refine (tag2_any t n w).mono ?_
  rintro e w' ⟨rfl, h⟩
  exact ⟨_, rfl, rfl, h⟩
theorem tag3_row (t n : Int) (w : World) : Calls Try.prog 97 #[.agg #[.int .i64 t, .int .i64 n]] w fun e w' => ∃ v, e = .returned v ∧ (v = .int .i64 t ∧ Below w.heap.size w w') := by
  refine (tag3_any t n w).mono ?_
  rintro e w' ⟨rfl, h⟩
  exact ⟨_, rfl, rfl, h⟩
theorem tag4_row (t n m : Int) (w : World) : Calls Try.prog 98 #[.agg #[.int .i64 t, .int .i64 n, .int .i64 m]] w fun e w' => ∃ v, e = .returned v ∧ (v = .int .i64 t ∧ Below w.heap.size w w') := by
  refine (tag4_any t n m w).mono ?_
  rintro e w' ⟨rfl, h⟩
  exact ⟨_, rfl, rfl, h⟩
theorem meth1 (v : Value) (w : World) : (method 238 77 v "packsaddle/pool.tag").run Try.prog w = .ok (95, v) w := by kernel_rfl
theorem meth2 (v : Value) (w : World) : (method 238 79 v "packsaddle/pool.tag").run Try.prog w = .ok (96, v) w := by kernel_rfl
theorem meth3 (v : Value) (w : World) : (method 238 82 v "packsaddle/pool.tag").run Try.prog w = .ok (97, v) w := by kernel_rfl
theorem meth4 (v : Value) (w : World) : (method 238 84 v "packsaddle/pool.tag").run Try.prog w = .ok (98, v) w := by kernel_rfl
theorem ent1 (args : Array Value) (w : World) : (callFunc 95 args).run Try.prog w = .ok (.enter 95 args) w := (enters_of Try.func95 (by kernel_rfl) rfl) args w
theorem ent2 (args : Array Value) (w : World) : (callFunc 96 args).run Try.prog w = .ok (.enter 96 args) w := (enters_of Try.func96 (by kernel_rfl) rfl) args w
theorem ent3 (args : Array Value) (w : World) : (callFunc 97 args).run Try.prog w = .ok (.enter 97 args) w := (enters_of Try.func97 (by kernel_rfl) rfl) args w
theorem ent4 (args : Array Value) (w : World) : (callFunc 98 args).run Try.prog w = .ok (.enter 98 args) w := (enters_of Try.func98 (by kernel_rfl) rfl) args w
theorem ta_text_text (v : Value) (w : World) : (Instr.typeAssert (.iface 77 v) 74 77 true).run Try.prog w = .ok (.tuple #[v, .bool true]) w := by kernel_rfl
theorem ta_bits_text (v : Value) (w : World) : (Instr.typeAssert (.iface 79 v) 74 77 true).run Try.prog w = .ok (.tuple #[.string ⟨#[]⟩, .bool false]) w := by kernel_rfl
theorem ta_bits_bits (v : Value) (w : World) : (Instr.typeAssert (.iface 79 v) 74 79 true).run Try.prog w = .ok (.tuple #[v, .bool true]) w := by kernel_rfl
theorem ta_link_text (v : Value) (w : World) : (Instr.typeAssert (.iface 82 v) 74 77 true).run Try.prog w = .ok (.tuple #[.string ⟨#[]⟩, .bool false]) w := by kernel_rfl
theorem ta_link_bits (v : Value) (w : World) : (Instr.typeAssert (.iface 82 v) 74 79 true).run Try.prog w = .ok (.tuple #[.agg #[.int .i64 0, .int .u64 0], .bool false]) w := by kernel_rfl
theorem ta_link_link (v : Value) (w : World) : (Instr.typeAssert (.iface 82 v) 74 82 true).run Try.prog w = .ok (.tuple #[v, .bool true]) w := by kernel_rfl
theorem ta_pair_text (v : Value) (w : World) : (Instr.typeAssert (.iface 84 v) 74 77 true).run Try.prog w = .ok (.tuple #[.string ⟨#[]⟩, .bool false]) w := by kernel_rfl
theorem ta_pair_bits (v : Value) (w : World) : (Instr.typeAssert (.iface 84 v) 74 79 true).run Try.prog w = .ok (.tuple #[.agg #[.int .i64 0, .int .u64 0], .bool false]) w := by kernel_rfl
theorem ta_pair_link (v : Value) (w : World) : (Instr.typeAssert (.iface 84 v) 74 82 true).run Try.prog w = .ok (.tuple #[.agg #[.int .i64 0, .int .i64 0], .bool false]) w := by kernel_rfl
theorem ta_pair_pair (v : Value) (w : World) : (Instr.typeAssert (.iface 84 v) 74 84 true).run Try.prog w = .ok (.tuple #[v, .bool true]) w := by kernel_rfl
def Rw.nb (r : Rw) : Nat := if r.tag = 5 ∨ r.tag = 6 then 8 else 4
theorem Rw.nb_ok (r : Rw) : r.nb = 1 ∨ r.nb = 2 ∨ r.nb = 4 ∨ r.nb = 8 := by unfold Rw.nb; split <;> simp
theorem size_row (r : Rw) (w : World) : Calls Try.prog 39 #[.int .i64 r.tag] w fun e w' => ∃ v, e = .returned v ∧ (v = .int .i64 (r.nb : Nat) ∧ w' = w) := by
  refine (size_any r.tag w).mono ?_
  rintro e w' ⟨rfl, h⟩
  refine ⟨_, rfl, ?_, h⟩
  unfold Rw.nb
  by_cases h5 : r.tag = 5 ∨ r.tag = 6
  · rw [if_pos h5, if_pos (by simpa using h5)]; rfl
  · rw [if_neg h5, if_neg (by simpa using h5)]; rfl
theorem Rw.out_bits {r : Rw} (h : r.tag = 3 ∨ r.tag = 4 ∨ r.tag = 5 ∨ r.tag = 6) : r.out = [UInt8.ofNat r.tag.toNat] ++ bigB r.nb r.bits := by
  unfold Rw.out Rw.nb
  rcases h with h | h | h | h <;> simp [h, Pv.form]
theorem Rw.out_link {r : Rw} (h : r.tag = 7 ∨ r.tag = 8) : r.out = [UInt8.ofNat r.tag.toNat] ++ bigB 2 r.a := by
  unfold Rw.out
  rcases h with h | h <;> simp [h, Pv.form]
theorem Rw.out_pair {r : Rw} (h : r.tag = 9 ∨ r.tag = 10 ∨ r.tag = 11 ∨ r.tag = 12) : r.out = [UInt8.ofNat r.tag.toNat] ++ bigB 2 r.a ++ bigB 2 r.b := by
  unfold Rw.out
  rcases h with h | h | h | h <;> simp [h, Pv.form]
theorem form_some {t : Int} (h : ¬ Pv.form t = 0) (h1 : ¬ t = 1) : (t = 3 ∨ t = 4 ∨ t = 5 ∨ t = 6) ∨ (t = 7 ∨ t = 8) ∨ (t = 9 ∨ t = 10 ∨ t = 11 ∨ t = 12) := by
  unfold Pv.form at h
  omega
theorem form_none {t : Int} (h : Pv.form t = 0) : ¬ t = 1 ∧ ¬ (t = 3 ∨ t = 4 ∨ t = 5 ∨ t = 6) ∧ ¬ (t = 7 ∨ t = 8) ∧ ¬ (t = 9 ∨ t = 10 ∨ t = 11 ∨ t = 12) := by
  unfold Pv.form at h
  omega
theorem wrap_u8 {n : Int} (h : 0 ≤ n) (h2 : n ≤ 255) : IntKind.u8.wrap n = n := by rw [IntKind.wrap_u8]; omega
set_option maxRecDepth 100000 in
set_option maxHeartbeats 8000000 in
theorem pbytes_any (A : Option Addr) (c : Nat) (L : List Rw) (w : World) (hx : Raws w A c L) (hL : L.length ≤ 10000) (hf : ∀ r ∈ L, r.fit) :
    Calls Try.prog 18 #[.slice A L.length c] w fun e w' => ∃ u, e = .returned u ∧ BRow w' w.heap.size 5 u (Rw.bytes L) ∧ Below w.heap.size w w' := by
  have HX := Lib.hid hx
  have HF := Lib.hid hf
  have HC := Lib.hid (big_any none 0 [] L.length 2 w (BAt.nil _ _ _) (fun _ => rfl) (by simp) (by omega) (by simp))
  clear hx hf
  go_enter Try.func18, Try.ntmps18
  go_wp2_with fail
  refine HC.out.mono ?_
  rintro e w1 ⟨u1, rfl, hr1, hb1⟩
  obtain ⟨A1, d1, rfl, _⟩ := hr1.at_
  rw [List.nil_append] at hr1 ⊢
  have kz := (Below.refl w1.heap.size w1).alloc (Nat.le_refl _) (.cells #[.slice A1 (bigB 2 L.length).length d1] 46)
  have HK := Lib.hid (show Kept (w1.alloc (.cells #[.slice A1 (bigB 2 L.length).length d1] 46)) w.heap.size w1.heap.size (Rw.bytesTo L 0) from ⟨_, heap_alloc_new _ _, by rw [Rw.bytesTo_zero]; exact hr1.grow kz, hb1.size⟩)
  have HB := Lib.hid (hb1.trans (kz.mono hb1.size))
  have hwb := hb1.size
  clear hr1 hb1 HC kz
  go_wp2_with fail
  generalize w1.alloc (.cells #[.slice A1 (bigB 2 L.length).length d1] 46) = W at HK HB ⊢
  generalize w1.heap.size = B at *
  go_loopw [19] (fun t wr => ∃ i : Nat, i ≤ L.length ∧ t = .int .i64 i ∧ Kept wr w.heap.size B (Rw.bytesTo L i) ∧ Below w.heap.size w wr) (fun t _ => L.length - (intOf t).toNat)
  case atStart => exact ⟨0, Nat.zero_le _, rfl, HK.out, HB.out⟩
  case round =>
    obtain ⟨i, hil, rfl, hr, hB⟩ := hrel
    have MR := Lib.hid hr
    have MB := Lib.hid hB
    clear hr hB HK HB
    by_cases hi : i < L.length
    · obtain ⟨g, o, r, rfl, hg, hv, c0, c1, c2, c3, c4⟩ := (HX.out.grow MB.out).at_ hi
      have p1 : decide ((i : Int) < (L.length : Int)) = true := decide_eq_true (by omega)
      have p2 : decide (i < L.length) = true := decide_eq_true hi
      have HOF := Lib.hid (fun w => of_any r w)
      unfold rr at HOF
      have k1 := Lib.hid (show Below wr.heap.size wr (wr.alloc (.cells #[.int .i64 r.tag, .string (bs r.text), .int .u64 r.bits, .int .i64 r.a, .int .i64 r.b] 49)) from (Below.refl _ _).alloc (Nat.le_refl _) _)
      have q1 := Lib.hid (show RBox (wr.alloc (.cells #[.int .i64 r.tag, .string (bs r.text), .int .u64 r.bits, .int .i64 r.a, .int .i64 r.b] 49)) wr.heap.size r from heap_alloc_new _ _)
      by_cases h0 : i = 0
      · subst h0
        simp only [Nat.zero_mul, Nat.add_zero] at c0 c1 c2 c3 c4
        clear hv
        go_wp2_with fail
        refine (HOF.out _).mono ?_
        rintro e w3 ⟨rfl, hb3⟩
        have NB := Lib.hid (MB.out.trans ((k1.out.trans (hb3.mono k1.out.size)).mono MB.out.size))
        have NR := Lib.hid (show Kept w3 w.heap.size B (Rw.bytesTo L (0 + 1)) from by
          rw [Rw.bytesTo_one, ← Rw.bytesTo_zero]; exact MR.out.grow (k1.out.trans (hb3.mono k1.out.size)))
        clear hb3 HOF c0 c1 c2 c3 c4 q1 k1
        generalize ifc r = x at *
        go_wp2_with fail
        go_roundw
        case rel => exact ⟨0 + 1, by omega, by go_num, NR.out, NB.out⟩
        case measure => simp [intOf]; omega
      · have p3 : ((i : Int) == 0) = false := by rw [beq_eq_false_iff_ne]; omega
        have HN := Lib.hid (Rw.bytesTo_next hv (by omega))
        have HFT := Lib.hid (HF.out r (List.mem_of_getElem? hv))
        have HLN := Lib.hid (Rw.bytesTo_len L hL HF.out i)
        clear hv
        generalize Rw.bytesTo L i = acc at *
        go_wp2_with fail
        refine (HOF.out _).mono ?_
        rintro e w3 ⟨rfl, hb3⟩
        have NB := Lib.hid (MB.out.trans ((k1.out.trans (hb3.mono k1.out.size)).mono MB.out.size))
        have NR := Lib.hid (MR.out.grow (k1.out.trans (hb3.mono k1.out.size)))
        clear hb3 HOF c0 c1 c2 c3 c4 q1 k1 MR MB p1 p2 hg
        obtain ⟨u3, hbx, hrw, hbB⟩ := NR.out
        obtain ⟨A3, d3, rfl, _⟩ := hrw.at_
        have b0 : w3.cell? ⟨B, 0, none⟩ = some (.slice A3 acc.length d3) := (blk_facts hbx).1 0
        have bf := (blk_facts hbx).2 0
        have bz := (Array.getElem?_eq_some_iff.1 hbx).1
        have HBX := Lib.hid hbx
        have HRW := Lib.hid hrw
        have hln := HLN.out
        have hw3 := NB.out.size
        obtain ⟨hft, hfb, hfa, hfb2⟩ := HFT.out
        clear hbx hrw NR
        by_cases hfz : Pv.form r.tag = 0
        · obtain ⟨f1, f2, f3, f4⟩ := form_none hfz
          have hI : ifc r = .nilIface := by unfold ifc; rw [if_neg f1, if_neg f2, if_neg f3, if_neg f4]
          have ho : r.out = [] := by unfold Rw.out; rw [if_pos hfz]
          rw [ho, List.append_nil] at HN
          rw [hI]
          clear b0 bf bz
          go_wp2_with fail
          go_roundw
          case rel => exact ⟨i + 1, by omega, by go_num, ⟨_, HBX.out, by rw [HN.out]; exact HRW.out, hbB⟩, NB.out⟩
          case measure => simp [intOf]; omega
        by_cases h1 : r.tag = 1
        · have hI : ifc r = .iface 77 (.string (bs r.text)) := by unfold ifc; rw [if_pos h1]
          have HO := Lib.hid (show r.out = [UInt8.ofNat 1] ++ (bigB 2 r.text.length ++ r.text) by unfold Rw.out; rw [if_neg hfz, h1]; rfl)
          rw [hI]
          have hbyte := Lib.hid (show (1 : Int) = ((UInt8.ofNat 1).toNat : Int) from rfl)
          have hwt : IntKind.u8.wrap 1 = 1 := by decide
          have t1 := ta_text_text
          go_upto_region 8 with fail
          have hme := meth1
          have hen := ent1
          go_region_law ((first | (refine step_call rfl 95 #[.string (bs r.text)] ?_ (tag1_row _ _) ?_; (focus (go_simp; done)); rintro v4 x4 ⟨rfl, hb4⟩; have hb34 : Below w3.heap.size w3 x4 := (Below.refl _ _).drew.trans hb4; have hbx4 := (hb34.block B bz).trans HBX.out; have b4 : x4.cell? ⟨B, 0, none⟩ = some (.slice A3 acc.length d3) := (blk_facts hbx4).1 0; have bf4 := (blk_facts hbx4).2 0; have bz4 := (Array.getElem?_eq_some_iff.1 hbx4).1; have hs34 := hb34.size) | (refine step_appBy rfl _ _ _ rfl w.heap.size _ acc [UInt8.ofNat 1] rfl (HRW.out.grow (by (repeat (first | exact Below.refl _ _ | exact hb34 | refine Below.drew ?_ | refine Below.alloc ?_ ?_ _)); (all_goals (first | omega | (simp; done) | (simp; omega))))) _ rfl (src_byte (heap_alloc_new _ _) _ hbyte.out) (by simp; omega) (by first | omega | (simp; omega)) ?_; intro v5 x5 hr5 hp5; have hbx5 := (hp5.1.block B (by simp; omega) (own_ne HRW.out HBX.out (by decide))).trans ((heap_alloc_old _ _ bz4).trans hbx4); have b5 : x5.cell? ⟨B, 0, none⟩ = some (.slice A3 acc.length d3) := (blk_facts hbx5).1 0; have bf5 := (blk_facts hbx5).2 0; have bz5 := (Array.getElem?_eq_some_iff.1 hbx5).1; obtain ⟨A5, d5, e5, _⟩ := hr5.at_; simp only [List.length_append, List.length_cons, List.length_nil, Nat.zero_add] at e5; subst e5; have NB5 : Below w.heap.size w x5 := Below.trans (NB.out.trans (Below.mono (Below.trans hb34 (by (repeat (first | exact Below.refl _ _ | exact hb34 | refine Below.drew ?_ | refine Below.alloc ?_ ?_ _)); (all_goals (first | omega | (simp; done) | (simp; omega))))) NB.out.size)) (hp5.below (by simp; omega) (fun k hk => (World.ownsRow.lt HRW.out k hk).1)))))
          all_goals
            have KZ := Lib.hid (kept_set hbx5 hr5 hbB)
            have ZB := Lib.hid (show Below w.heap.size w (x5.setCell ⟨B, 0, none⟩ (.slice A5 (acc.length + 1) d5)) from NB5.setCell (p := ⟨B, 0, none⟩) hbB _)
            clear b4 bf4 bz4 b5 bf5 bz5 hb4 hb34 hbx4 hs34 hr5 hp5 hbx5 NB5 b0 bf bz hme hen HBX HRW
            generalize x5.setCell ⟨B, 0, none⟩ (.slice A5 (acc.length + 1) d5) = Z at KZ ZB ⊢
            go_wp2_with fail
            refine (two_any w.heap.size B r.text.length (acc ++ [UInt8.ofNat 1]) Z KZ.out (by simp; omega) (by omega)).mono ?_
            rintro e x6 ⟨rfl, hk6, hb6, hg6⟩
            clear hg6
            obtain ⟨u6, hbx6, hrw6, _⟩ := hk6
            obtain ⟨A6, d6, e6, _⟩ := hrw6.at_
            simp only [List.length_append, List.length_cons, List.length_nil, Nat.zero_add, bigB_len, Nat.add_assoc, Nat.reduceAdd] at e6
            subst e6
            have b6 : x6.cell? ⟨B, 0, none⟩ = some (.slice A6 (acc.length + 3) d6) := (blk_facts hbx6).1 0
            have bf6 := (blk_facts hbx6).2 0
            have bz6 := (Array.getElem?_eq_some_iff.1 hbx6).1
            have ZB6 := Lib.hid (ZB.out.trans hb6)
            have HBX6 := Lib.hid hbx6
            have HRW6 := Lib.hid hrw6
            have hst : Src Try.prog 1 77 (.string (bs r.text)) r.text.length (cb r.text) x6 := src_string Try.underlying77 r.text
            have HST := Lib.hid hst
            clear hbx6 hrw6 hb6 KZ ZB hst
            go_wp2_with (at_builtin; refine wpList_appBy rfl _ _ _ rfl w.heap.size _ _ r.text rfl HRW6.out _ rfl HST.out (by simp [bigB_len]; omega) ZB6.out.size ?_; intro v7 x7 hr7 hp7; have hbx7 := (hp7.1.block B bz6 (own_ne HRW6.out HBX6.out (by decide))).trans HBX6.out; have b7 : x7.cell? ⟨B, 0, none⟩ = some (.slice A6 (acc.length + 3) d6) := (blk_facts hbx7).1 0; have bf7 := (blk_facts hbx7).2 0; have bz7 := (Array.getElem?_eq_some_iff.1 hbx7).1; obtain ⟨A7, d7, e7, _⟩ := hr7.at_; generalize (acc ++ [UInt8.ofNat 1] ++ bigB 2 r.text.length ++ r.text).length = n7 at e7; subst e7)
            have N7 := Lib.hid (show Kept _ w.heap.size B (Rw.bytesTo L (i + 1)) from by
              rw [HN.out, HO.out, ← List.append_assoc, ← List.append_assoc]; exact kept_set hbx7 hr7 hbB)
            have NB7 := Lib.hid (show Below w.heap.size w _ from (ZB6.out.trans (hp7.below ZB6.out.size (fun k hk => (World.ownsRow.lt HRW6.out k hk).1))).setCell (p := ⟨B, 0, none⟩) hbB (.slice A7 n7 d7))
            clear hr7 hp7 hbx7 b7 bf7 bz7 b6 bf6 bz6 HST
            go_wp2_with fail
            go_roundw
            case rel => exact ⟨i + 1, by omega, by go_num, N7.out, NB7.out⟩
            case measure => simp [intOf]; omega
        rcases form_some hfz h1 with h2 | h2 | h2
        · have hI : ifc r = .iface 79 (.agg #[.int .i64 r.tag, .int .u64 r.bits]) := by unfold ifc; rw [if_neg h1, if_pos h2]
          have HO := Lib.hid (Rw.out_bits h2)
          rw [hI]
          have hbyte := Lib.hid (show r.tag = ((UInt8.ofNat r.tag.toNat).toNat : Int) by rw [u8_toNat]; omega)
          have hwt : IntKind.u8.wrap r.tag = r.tag := wrap_u8 (by omega) (by omega)
          have t1 := ta_bits_text
          have t2 := ta_bits_bits
          have HNB := Lib.hid (Rw.nb_ok r)
          clear h1 h2 hfz hI
          go_upto_region 8 with fail
          have hme := meth2
          have hen := ent2
          go_region_law ((first | (refine step_call rfl 96 #[.agg #[.int .i64 r.tag, .int .u64 (r.bits : Int)]] ?_ (tag2_row _ _ _) ?_; (focus (go_simp; done)); rintro v4 x4 ⟨rfl, hb4⟩; have hb34 : Below w3.heap.size w3 x4 := (Below.refl _ _).drew.trans hb4; have hbx4 := (hb34.block B bz).trans HBX.out; have b4 : x4.cell? ⟨B, 0, none⟩ = some (.slice A3 acc.length d3) := (blk_facts hbx4).1 0; have bf4 := (blk_facts hbx4).2 0; have bz4 := (Array.getElem?_eq_some_iff.1 hbx4).1; have hs34 := hb34.size) | (refine step_appBy rfl _ _ _ rfl w.heap.size _ acc [UInt8.ofNat r.tag.toNat] rfl (HRW.out.grow (by (repeat (first | exact Below.refl _ _ | exact hb34 | refine Below.drew ?_ | refine Below.alloc ?_ ?_ _)); (all_goals (first | omega | (simp; done) | (simp; omega))))) _ rfl (src_byte (heap_alloc_new _ _) _ hbyte.out) (by simp; omega) (by first | omega | (simp; omega)) ?_; intro v5 x5 hr5 hp5; have hbx5 := (hp5.1.block B (by simp; omega) (own_ne HRW.out HBX.out (by decide))).trans ((heap_alloc_old _ _ bz4).trans hbx4); have b5 : x5.cell? ⟨B, 0, none⟩ = some (.slice A3 acc.length d3) := (blk_facts hbx5).1 0; have bf5 := (blk_facts hbx5).2 0; have bz5 := (Array.getElem?_eq_some_iff.1 hbx5).1; obtain ⟨A5, d5, e5, _⟩ := hr5.at_; simp only [List.length_append, List.length_cons, List.length_nil, Nat.zero_add] at e5; subst e5; have NB5 : Below w.heap.size w x5 := Below.trans (NB.out.trans (Below.mono (Below.trans hb34 (by (repeat (first | exact Below.refl _ _ | exact hb34 | refine Below.drew ?_ | refine Below.alloc ?_ ?_ _)); (all_goals (first | omega | (simp; done) | (simp; omega))))) NB.out.size)) (hp5.below (by simp; omega) (fun k hk => (World.ownsRow.lt HRW.out k hk).1)))))
          all_goals
            have KZ := Lib.hid (kept_set hbx5 hr5 hbB)
            have ZB := Lib.hid (show Below w.heap.size w (x5.setCell ⟨B, 0, none⟩ (.slice A5 (acc.length + 1) d5)) from NB5.setCell (p := ⟨B, 0, none⟩) hbB _)
            clear b4 bf4 bz4 b5 bf5 bz5 hb4 hb34 hbx4 hs34 hr5 hp5 hbx5 NB5 b0 bf bz hme hen HBX HRW
            generalize x5.setCell ⟨B, 0, none⟩ (.slice A5 (acc.length + 1) d5) = Z at KZ ZB ⊢
            go_upto_region 16 with fail
            have kz := (Below.refl Z.heap.size Z).alloc (Nat.le_refl _) (.cells #[.int .i64 r.tag, .int .u64 (r.bits : Int)] 79)
            have KY := Lib.hid (KZ.out.grow kz)
            have YB := Lib.hid (ZB.out.trans (kz.mono ZB.out.size))
            have y0 := (blk_facts (heap_alloc_new Z (.cells #[.int .i64 r.tag, .int .u64 (r.bits : Int)] 79))).1 0
            have y1 := (blk_facts (heap_alloc_new Z (.cells #[.int .i64 r.tag, .int .u64 (r.bits : Int)] 79))).1 1
            have yz : Z.heap.size < (Z.alloc (.cells #[.int .i64 r.tag, .int .u64 (r.bits : Int)] 79)).heap.size := by simp
            clear kz KZ ZB
            generalize Z.alloc (.cells #[.int .i64 r.tag, .int .u64 (r.bits : Int)] 79) = Y at KY YB y0 y1 yz ⊢
            obtain ⟨u6, hbx6, hrw6, _⟩ := KY.out
            obtain ⟨A6, d6, e6, _⟩ := hrw6.at_
            simp only [List.length_append, List.length_cons, List.length_nil, Nat.zero_add, bigB_len, Nat.add_assoc, Nat.reduceAdd] at e6
            subst e6
            have b6 : Y.cell? ⟨B, 0, none⟩ = some (.slice A6 (acc.length + 1) d6) := (blk_facts hbx6).1 0
            have bz6 := (Array.getElem?_eq_some_iff.1 hbx6).1
            have HBX6 := Lib.hid hbx6
            have HRW6 := Lib.hid hrw6
            have hyb := YB.out.size
            clear hbx6 hrw6 KY
            go_region_law ((first
              | (refine step_call rfl 39 #[.int .i64 r.tag] ?_ (size_row r _) ?_; (focus (go_simp; done)); rintro v8 x8 ⟨rfl, rfl⟩)
              | (refine step_call rfl 36 #[.slice A6 (acc.length + 1) d6, .int .u64 (r.bits : Int), .int .i64 (r.nb : Nat)] ?_ (big_row (HRW6.out.grow (Below.refl _ _).drew) (by simp; omega) r.bits r.nb (by omega) HNB.out hyb) ?_; (focus (go_simp; done)); rintro v9 x9 ⟨hr9, hb9⟩; have hb69 : Below Y.heap.size Y x9 := (Below.refl _ _).drew.trans hb9; have hbx9 := (hb69.block B bz6).trans HBX6.out; have b9 : x9.cell? ⟨B, 0, none⟩ = some (.slice A6 (acc.length + 1) d6) := (blk_facts hbx9).1 0; have bf9 := (blk_facts hbx9).2 0; have bz9 := (Array.getElem?_eq_some_iff.1 hbx9).1; obtain ⟨A9, d9, e9, _⟩ := hr9.at_; simp only [List.length_append, List.length_cons, List.length_nil, Nat.zero_add, bigB_len, Nat.add_assoc, Nat.reduceAdd] at e9; subst e9)))
            all_goals
              have N9 := Lib.hid (show Kept _ w.heap.size B (Rw.bytesTo L (i + 1)) from by
                rw [HN.out, HO.out, ← List.append_assoc]; exact kept_set hbx9 hr9 hbB)
              have NB9 := Lib.hid (show Below w.heap.size w _ from (YB.out.trans (hb69.mono hyb)).setCell (p := ⟨B, 0, none⟩) hbB (.slice A9 (acc.length + (1 + r.nb)) d9))
              clear b6 bz6 hr9 hb9 hb69 hbx9 b9 bf9 bz9 y0 y1 yz
              go_wp2_with fail
              go_roundw
              case rel => exact ⟨i + 1, by omega, by go_num, N9.out, NB9.out⟩
              case measure => simp [intOf]; omega
        · have hI : ifc r = .iface 82 (.agg #[.int .i64 r.tag, .int .i64 r.a]) := by unfold ifc; rw [if_neg h1, if_neg (by omega), if_pos h2]
          have HO := Lib.hid (Rw.out_link h2)
          rw [hI]
          have hbyte := Lib.hid (show r.tag = ((UInt8.ofNat r.tag.toNat).toNat : Int) by rw [u8_toNat]; omega)
          have hwt : IntKind.u8.wrap r.tag = r.tag := wrap_u8 (by omega) (by omega)
          have t1 := ta_link_text
          have t2 := ta_link_bits
          have t3 := ta_link_link
          clear h1 h2 hfz hI
          go_upto_region 8 with fail
          have hme := meth3
          have hen := ent3
          go_region_law ((first | (refine step_call rfl 97 #[.agg #[.int .i64 r.tag, .int .i64 (r.a : Int)]] ?_ (tag3_row _ _ _) ?_; (focus (go_simp; done)); rintro v4 x4 ⟨rfl, hb4⟩; have hb34 : Below w3.heap.size w3 x4 := (Below.refl _ _).drew.trans hb4; have hbx4 := (hb34.block B bz).trans HBX.out; have b4 : x4.cell? ⟨B, 0, none⟩ = some (.slice A3 acc.length d3) := (blk_facts hbx4).1 0; have bf4 := (blk_facts hbx4).2 0; have bz4 := (Array.getElem?_eq_some_iff.1 hbx4).1; have hs34 := hb34.size) | (refine step_appBy rfl _ _ _ rfl w.heap.size _ acc [UInt8.ofNat r.tag.toNat] rfl (HRW.out.grow (by (repeat (first | exact Below.refl _ _ | exact hb34 | refine Below.drew ?_ | refine Below.alloc ?_ ?_ _)); (all_goals (first | omega | (simp; done) | (simp; omega))))) _ rfl (src_byte (heap_alloc_new _ _) _ hbyte.out) (by simp; omega) (by first | omega | (simp; omega)) ?_; intro v5 x5 hr5 hp5; have hbx5 := (hp5.1.block B (by simp; omega) (own_ne HRW.out HBX.out (by decide))).trans ((heap_alloc_old _ _ bz4).trans hbx4); have b5 : x5.cell? ⟨B, 0, none⟩ = some (.slice A3 acc.length d3) := (blk_facts hbx5).1 0; have bf5 := (blk_facts hbx5).2 0; have bz5 := (Array.getElem?_eq_some_iff.1 hbx5).1; obtain ⟨A5, d5, e5, _⟩ := hr5.at_; simp only [List.length_append, List.length_cons, List.length_nil, Nat.zero_add] at e5; subst e5; have NB5 : Below w.heap.size w x5 := Below.trans (NB.out.trans (Below.mono (Below.trans hb34 (by (repeat (first | exact Below.refl _ _ | exact hb34 | refine Below.drew ?_ | refine Below.alloc ?_ ?_ _)); (all_goals (first | omega | (simp; done) | (simp; omega))))) NB.out.size)) (hp5.below (by simp; omega) (fun k hk => (World.ownsRow.lt HRW.out k hk).1)))))
          all_goals
            have KZ := Lib.hid (kept_set hbx5 hr5 hbB)
            have ZB := Lib.hid (show Below w.heap.size w (x5.setCell ⟨B, 0, none⟩ (.slice A5 (acc.length + 1) d5)) from NB5.setCell (p := ⟨B, 0, none⟩) hbB _)
            clear b4 bf4 bz4 b5 bf5 bz5 hb4 hb34 hbx4 hs34 hr5 hp5 hbx5 NB5 b0 bf bz hme hen HBX HRW
            generalize x5.setCell ⟨B, 0, none⟩ (.slice A5 (acc.length + 1) d5) = Z at KZ ZB ⊢
            have kz := (Below.refl Z.heap.size Z).alloc (Nat.le_refl _) (.cells #[.int .i64 r.tag, .int .i64 (r.a : Int)] 82)
            have KY := Lib.hid (KZ.out.grow kz)
            have YB := Lib.hid (ZB.out.trans (kz.mono ZB.out.size))
            clear kz KZ ZB
            go_wp2_with fail
            refine (two_any w.heap.size B r.a (acc ++ [UInt8.ofNat r.tag.toNat]) _ KY.out (by simp; omega) (by omega)).mono ?_
            rintro e x6 ⟨rfl, hk6, hb6, hg6⟩
            have N9 := Lib.hid (show Kept x6 w.heap.size B (Rw.bytesTo L (i + 1)) from by rw [HN.out, HO.out, ← List.append_assoc]; exact hk6)
            have NB9 := Lib.hid (YB.out.trans hb6)
            clear hk6 hb6 hg6
            go_wp2_with fail
            go_roundw
            case rel => exact ⟨i + 1, by omega, by go_num, N9.out, NB9.out⟩
            case measure => simp [intOf]; omega
        · have hI : ifc r = .iface 84 (.agg #[.int .i64 r.tag, .int .i64 r.a, .int .i64 r.b]) := by unfold ifc; rw [if_neg h1, if_neg (by omega), if_neg (by omega), if_pos h2]
          have HO := Lib.hid (Rw.out_pair h2)
          rw [hI]
          have hbyte := Lib.hid (show r.tag = ((UInt8.ofNat r.tag.toNat).toNat : Int) by rw [u8_toNat]; omega)
          have hwt : IntKind.u8.wrap r.tag = r.tag := wrap_u8 (by omega) (by omega)
          have t1 := ta_pair_text
          have t2 := ta_pair_bits
          have t3 := ta_pair_link
          have t4 := ta_pair_pair
          clear h1 h2 hfz hI
          go_upto_region 8 with fail
          have hme := meth4
          have hen := ent4
          go_region_law ((first | (refine step_call rfl 98 #[.agg #[.int .i64 r.tag, .int .i64 (r.a : Int), .int .i64 (r.b : Int)]] ?_ (tag4_row _ _ _ _) ?_; (focus (go_simp; done)); rintro v4 x4 ⟨rfl, hb4⟩; have hb34 : Below w3.heap.size w3 x4 := (Below.refl _ _).drew.trans hb4; have hbx4 := (hb34.block B bz).trans HBX.out; have b4 : x4.cell? ⟨B, 0, none⟩ = some (.slice A3 acc.length d3) := (blk_facts hbx4).1 0; have bf4 := (blk_facts hbx4).2 0; have bz4 := (Array.getElem?_eq_some_iff.1 hbx4).1; have hs34 := hb34.size) | (refine step_appBy rfl _ _ _ rfl w.heap.size _ acc [UInt8.ofNat r.tag.toNat] rfl (HRW.out.grow (by (repeat (first | exact Below.refl _ _ | exact hb34 | refine Below.drew ?_ | refine Below.alloc ?_ ?_ _)); (all_goals (first | omega | (simp; done) | (simp; omega))))) _ rfl (src_byte (heap_alloc_new _ _) _ hbyte.out) (by simp; omega) (by first | omega | (simp; omega)) ?_; intro v5 x5 hr5 hp5; have hbx5 := (hp5.1.block B (by simp; omega) (own_ne HRW.out HBX.out (by decide))).trans ((heap_alloc_old _ _ bz4).trans hbx4); have b5 : x5.cell? ⟨B, 0, none⟩ = some (.slice A3 acc.length d3) := (blk_facts hbx5).1 0; have bf5 := (blk_facts hbx5).2 0; have bz5 := (Array.getElem?_eq_some_iff.1 hbx5).1; obtain ⟨A5, d5, e5, _⟩ := hr5.at_; simp only [List.length_append, List.length_cons, List.length_nil, Nat.zero_add] at e5; subst e5; have NB5 : Below w.heap.size w x5 := Below.trans (NB.out.trans (Below.mono (Below.trans hb34 (by (repeat (first | exact Below.refl _ _ | exact hb34 | refine Below.drew ?_ | refine Below.alloc ?_ ?_ _)); (all_goals (first | omega | (simp; done) | (simp; omega))))) NB.out.size)) (hp5.below (by simp; omega) (fun k hk => (World.ownsRow.lt HRW.out k hk).1)))))
          all_goals
            have KZ := Lib.hid (kept_set hbx5 hr5 hbB)
            have ZB := Lib.hid (show Below w.heap.size w (x5.setCell ⟨B, 0, none⟩ (.slice A5 (acc.length + 1) d5)) from NB5.setCell (p := ⟨B, 0, none⟩) hbB _)
            clear b4 bf4 bz4 b5 bf5 bz5 hb4 hb34 hbx4 hs34 hr5 hp5 hbx5 NB5 b0 bf bz hme hen HBX HRW
            generalize x5.setCell ⟨B, 0, none⟩ (.slice A5 (acc.length + 1) d5) = Z at KZ ZB ⊢
            have kz := (Below.refl Z.heap.size Z).alloc (Nat.le_refl _) (.cells #[.int .i64 r.tag, .int .i64 (r.a : Int), .int .i64 (r.b : Int)] 84)
            have KY := Lib.hid (KZ.out.grow kz)
            have YB := Lib.hid (ZB.out.trans (kz.mono ZB.out.size))
            have ZZ := Lib.hid (show B < Z.heap.size by obtain ⟨_, h, _⟩ := KZ.out; exact (Array.getElem?_eq_some_iff.1 h).1)
            have YX := Lib.hid (heap_alloc_new Z (.cells #[.int .i64 r.tag, .int .i64 (r.a : Int), .int .i64 (r.b : Int)] 84))
            clear kz KZ ZB
            go_wp2_with fail
            refine (two_any w.heap.size B r.a (acc ++ [UInt8.ofNat r.tag.toNat]) _ KY.out (by simp; omega) (by omega)).mono ?_
            rintro e x6 ⟨rfl, hk6, hb6, hg6⟩
            have hzb : ¬ B = Z.heap.size := by have := ZZ.out; omega
            have YX6 := (hg6.block Z.heap.size (by simp) (fun e => hzb (Option.some.inj e).symm)).trans YX.out
            have g1 := (blk_facts YX6).1 2
            have gz := (Array.getElem?_eq_some_iff.1 YX6).1
            have KY6 := Lib.hid hk6
            have YB6 := Lib.hid (YB.out.trans hb6)
            clear YX6 hg6 hk6 hb6 YX YB KY hzb
            go_wp2_with fail
            refine (two_any w.heap.size B r.b (acc ++ [UInt8.ofNat r.tag.toNat] ++ bigB 2 r.a) x6 KY6.out (by simp [bigB_len]; omega) (by omega)).mono ?_
            rintro e x7 ⟨rfl, hk7, hb7, _⟩
            have N9 := Lib.hid (show Kept x7 w.heap.size B (Rw.bytesTo L (i + 1)) from by rw [HN.out, HO.out, ← List.append_assoc, ← List.append_assoc]; exact hk7)
            have NB9 := Lib.hid (YB6.out.trans hb7)
            clear hk7 hb7
            go_wp2_with fail
            go_roundw
            case rel => exact ⟨i + 1, by omega, by go_num, N9.out, NB9.out⟩
            case measure => simp [intOf]; omega
    · obtain rfl : i = L.length := by omega
      have p1 : decide ((L.length : Int) < (L.length : Int)) = false := decide_eq_false (by omega)
      have p2 : decide (L.length < L.length) = false := decide_eq_false (by omega)
      rw [Rw.bytesTo_all] at MR
      obtain ⟨u, h1, h2, h3⟩ := MR.out
      obtain ⟨A2, d2, rfl, _⟩ := h2.at_
      have b0 : wr.cell? ⟨B, 0, none⟩ = some (.slice A2 (Rw.bytes L).length d2) := (blk_facts h1).1 0
      have hz := (Array.getElem?_eq_some_iff.1 h1).1
      have N2 := Lib.hid h2
      clear h1 h2
      go_wp2_with fail
      go_ret
      exact ⟨_, rfl, N2.out, MB.out⟩
end Go.Proofs.Ytimheacdaafodaa
