/- prefix.New. -/
import Derived.Test.YtjbbhfloomejoaaPfB
import Derived.Test.YtjbbhfloomejoaaOff
import Derived.Lib.SliceRun
namespace Go.Proofs.Ytjbbhfloomejoaa
open Go.RowKit
theorem wpList_appI {w : World} {ops : Array Oper} {rest : List Oper} {o : Oper} {a : Act} {Q : Exit → Act → World → Prop} (hgd : o.guard = none) (s x : Operand)
    (ho : o.op = .call { callee := .builtin .append, args := #[s, x], argTypes := #[56, 56] })
    (base : Nat) (v : Value) (xs : List Int) (hv : a.eval s = v) (hown : IRow w base v xs) (X : Value) (ys : List Int) (hX : a.eval x = X)
    (hs : Src Try.prog 1 56 X ys.length (ic ys) w) (hn : xs.length + ys.length ≤ 1000000000000) (hbase : base ≤ w.heap.size)
    (h : ∀ v' w', IRow w' base v' (xs ++ ys) → Hop w w' v.ownBlock v'.ownBlock → wpList Try.prog ops Q rest (a.put o.dst v') w') : wpList Try.prog ops Q (o :: rest) a w := by
  obtain ⟨i0, hi, hz0, hz1, hz2⟩ := info_parts infoInt
  refine wpList_append_row hgd s x 56 56 ho base 3 i0 _ 1 8 Try.underlying56 hi hz0 hz1 hz2 rfl v _ _ hv hown X ys.length (ic ys) hX (fun v' w' h1 h2 => h v' w' (IRow.app h1 rfl) h2) hs ?_ ?_ hbase
  · unfold maxLen; omega
  · omega
theorem ic_one (xs : List Int) : ∀ u ∈ ic xs, u.oneCell' = true := fun u hu => by
  unfold ic at hu
  obtain ⟨x, _, rfl⟩ := List.mem_map.1 hu
  rfl
theorem Ints.src {w : World} {A : Option Addr} {c : Nat} {xs : List Int} (h : Ints w A c xs) : Src Try.prog 1 56 (.slice A xs.length c) xs.length (ic xs) w := by
  cases xs with
  | nil =>
    cases A with
    | none => exact Src.ofNil w Try.underlying56 c
    | some a => exact Src.ofSlice w Try.underlying56 a 0 c [] rfl (fun j u hu => by simp at hu) (fun u hu => by cases hu)
  | cons y ys =>
    obtain ⟨g, o, rfl, hg, hc⟩ := h.2 (by simp)
    refine Src.ofSlice w Try.underlying56 ⟨g, o, none⟩ _ c _ (by rw [ic_length, Nat.mul_one]) (fun j u hu => ?_) (ic_one _)
    rw [off_addr]
    unfold ic at hu
    rw [List.getElem?_map] at hu
    cases hq : (y :: ys)[j]? with
    | none => rw [hq] at hu; cases hu
    | some z =>
      rw [hq] at hu
      cases hu
      exact hc j z hq
theorem ifresh0 {x : World} {B base : Nat} (h : x.heap[B]? = some (.cells #[] 3 (0, 0))) (hb : base ≤ B) : IRow x base (.slice (some ⟨B, 0, none⟩) 0 0) [] :=
  ⟨rfl, .inr ⟨B, 0, #[], rfl, hb, h, Nat.le_refl _, by unfold maxLen; omega, rfl, rfl⟩⟩
set_option maxHeartbeats 1000000 in
set_option maxRecDepth 100000 in
theorem iclone_any (A : Option Addr) (c : Nat) (l : List Int) (w : World) (hx : Ints w A c l) (hn : l.length ≤ 1000000000) (hA : A = none → c = 0) :
    Calls Try.prog 71 #[.slice A l.length c] w fun e w' => ∃ u, e = .returned u ∧ IRow w' w.heap.size u l ∧ Below w.heap.size w w' := by
  have HX := Lib.hid hx
  have qn : ∀ (w : World) (a : Option Addr) (n c : Nat), (binOp .eql 56 (.slice a n c) (.slice none 0 0)).run Try.prog w = .ok (.bool a.isNone) w := fun w a n c => Lib.run_eql_slice_nil w _ _ _ _ _ _ _ Try.underlying56
  clear hx
  cases A with
  | none =>
    obtain rfl : l = [] := by
      cases l with
      | nil => rfl
      | cons x l => obtain ⟨g, o, e, _⟩ := HX.out.2 (by simp); cases e
    obtain rfl := hA rfl
    clear hA HX
    go_enter Try.func71, Try.ntmps71
    go_wp2
    go_ret
    exact ⟨_, rfl, IRow.nil _ _, Below.refl _ _⟩
  | some a =>
    clear hA
    go_enter Try.func71, Try.ntmps71
    go_wp2_with (at_builtin; refine wpList_appI rfl _ _ rfl w.heap.size (.slice (some ⟨_, 0, none⟩) 0 0) [] rfl (ifresh0 (heap_alloc_new _ _) (Nat.le_refl _)) _ l rfl (HX.out.grow ((Below.refl _ _).alloc (Nat.le_refl _) _)).src (by simp; omega) (by simp) ?_; intro v1 w1 hr1 hp1)
    have hb1 := Lib.hid (show Below w.heap.size w w1 from Below.trans ((Below.refl _ _).alloc (Nat.le_refl _) _) (hp1.below (by simp) (fun k hk => by cases hk; simp)))
    have HR := Lib.hid hr1
    clear hr1 hp1
    go_ret
    exact ⟨_, rfl, HR.out, hb1.out⟩
/-- n cells, by a function. -/
def Fx (n : Nat) (g : Nat → Value) : List Value := (List.range n).map g
section
variable {n : Nat} {f g : Nat → Value}
theorem Fx_len : (Fx n f).length = n := by simp [Fx]
theorem Fx_get {k : Nat} (h : k < n) : (Fx n f)[k]? = some (f k) := by
  unfold Fx
  rw [List.getElem?_map, List.getElem?_range h]
  rfl
theorem Fx_ext (h : ∀ k, k < n → f k = g k) : Fx n f = Fx n g := List.map_congr_left fun k hk => h k (List.mem_range.1 hk)
theorem Fx_set {i : Nat} {c : Value} (h : ∀ k, k < n → g k = if k = i then c else f k) : (Fx n f).toArray.setIfInBounds i c = (Fx n g).toArray := by
  rw [List.setIfInBounds_toArray]
  congr 1
  refine List.ext_getElem? fun k => ?_
  rw [List.getElem?_set]
  by_cases hk : k < n
  · rw [Fx_get (f := g) hk, h k hk, Fx_len]
    by_cases hi : i = k
    · subst hi; simp [hk]
    · rw [if_neg hi, Fx_get (f := f) hk, if_neg (fun e => hi e.symm)]
  · rw [List.getElem?_eq_none (by rw [Fx_len]; omega), List.getElem?_eq_none (by rw [Fx_len]; omega), Fx_len]
    by_cases hi : i = k
    · subst hi; simp [hk]
    · simp [hi]
end
def XB (w : World) (B n : Nat) (t : TypeId) (g : Nat → Value) : Prop := w.heap[B]? = some (.cells (Fx n g).toArray t (0, 0))
section
variable {w : World} {B n : Nat} {t : TypeId} {f g : Nat → Value}
theorem XB.lt (h : XB w B n t f) : B < w.heap.size := (Array.getElem?_eq_some_iff.1 h).1
theorem XB.cell (h : XB w B n t f) {k : Nat} (hk : k < n) : w.cell? ⟨B, k, none⟩ = some (f k) := by rw [Lib.cell_of_heap h, List.getElem?_toArray, Fx_get hk]
theorem XB.set (h : XB w B n t f) {i : Nat} {c : Value} (hg : ∀ k, k < n → g k = if k = i then c else f k) : XB (w.setCell ⟨B, i, none⟩ c) B n t g := by
  have := set_at' (k := i) h c
  rw [Fx_set hg] at this
  exact this
theorem XB.else_ (h : XB w B n t f) {b i : Nat} (v : Value) (hb : b ≠ B) : XB (w.setCell ⟨b, i, none⟩ v) B n t f := (set_else' _ _ hb).trans h
theorem XB.ext (h : XB w B n t f) (e : ∀ k, k < n → f k = g k) : XB w B n t g := by unfold XB; rw [← Fx_ext e]; exact h
theorem XB.grow {w' : World} (h : XB w B n t f) (k : Below w.heap.size w w') : XB w' B n t f := (k.block B h.lt).trans h
end
/-- A code's cells: its lengths, its words, how many of each, the order. -/
def cdf (lv wo : Value) (f : Nat → Nat) (ov : Value) (k : Nat) : Value := if k = 0 then lv else if k = 1 then wo else if k = 18 then ov else .int .i64 (f (k - 2) : Nat)
/-- Where a length stands. -/
def Pf.pos (l : List Nat) (n i : Nat) : List Nat := (List.range i).filter fun j => l[j]? == some n
def Pf.ord (l : List Nat) (m : Nat) : List Nat := (List.range m).flatMap fun k => Pf.pos l (k + 1) l.length
/-- How many of each, when lengths up to m are done, and of the next one i places. -/
def Pf.cc (l : List Nat) (m i : Nat) (k : Nat) : Nat := if k = 0 then 0 else if k ≤ m then l.count k else if k = m + 1 then (l.take i).count k else 0
theorem Pf.ord_next (l : List Nat) (m : Nat) : Pf.ord l (m + 1) = Pf.ord l m ++ Pf.pos l (m + 1) l.length := by simp [Pf.ord, List.range_succ]
theorem Pf.pos_next (l : List Nat) (n i : Nat) : Pf.pos l n (i + 1) = Pf.pos l n i ++ (if l[i]? = some n then [i] else []) := by
  unfold Pf.pos
  rw [List.range_succ, List.filter_append]
  congr 1
  by_cases h : l[i]? = some n
  · simp [h]
  · simp [h]
theorem Pf.pos_len (l : List Nat) (n i : Nat) : (Pf.pos l n i).length ≤ i := by
  unfold Pf.pos
  exact Nat.le_trans (List.length_filter_le ..) (by simp)
theorem Pf.ord_len (l : List Nat) : ∀ m, (Pf.ord l m).length ≤ m * l.length
  | 0 => by simp [Pf.ord]
  | m + 1 => by
    have h1 := Pf.ord_len l m
    have h2 := Pf.pos_len l (m + 1) l.length
    rw [Pf.ord_next, List.length_append, Nat.succ_mul]
    omega
theorem irow_lower {w : World} {base b : Nat} {v : Value} {xs : List Int} (h : IRow w base v xs) (hb : b ≤ base) : IRow w b v xs :=
  ⟨h.1, by
    rcases h.2 with h2 | ⟨g, cap, cur, e, h3, h4⟩
    · exact .inl h2
    · exact .inr ⟨g, cap, cur, e, Nat.le_trans hb h3, h4⟩⟩
theorem il_append (l m : List Nat) : il (l ++ m) = il l ++ il m := List.map_append
set_option maxHeartbeats 8000000 in
set_option maxRecDepth 100000 in
theorem new_any (A : Option Addr) (c : Nat) (l : List Nat) (w : World) (h : Ints w A c (il l)) (hA : A = none → c = 0) (hl : ∀ n ∈ l, n ≤ 15) (hn : l.length ≤ 1000) (hk : Pf.kind l ≠ 0) :
    Calls Try.prog 50 #[.slice A l.length c] w fun e w' => ∃ b lv G ov, e = .returned (.tuple #[.pointer (some ⟨b, 0, none⟩), .int .i64 0]) ∧ XB w' b 19 118 (cdf lv (.slice (some ⟨G, 0, none⟩) l.length l.length) (Pf.cc l 15 0) ov) ∧ IRow w' w.heap.size lv (il l) ∧ UB w' G l.length 40 (Pf.wd l) ∧ IRow w' w.heap.size ov (il (Pf.ord l 15)) ∧ w.heap.size ≤ G ∧ w.heap.size ≤ b ∧ Below w.heap.size w w' := by
  have HK := Lib.hid (words_any A c l w h hl hn hk)
  have HX := Lib.hid h
  have HL := Lib.hid hl
  have ihl := il_len l
  have HC := Lib.hid (fun w' (k : Below w.heap.size w w') => iclone_any A c (il l) w' (h.grow k) (by rw [il_len]; omega) hA)
  rw [ihl] at HC
  clear h hl ihl
  go_enter Try.func50, Try.ntmps50
  go_wp2_with fail
  refine HK.out.mono ?_
  rintro e w1 ⟨G, rfl, hu, hg, hb⟩
  have HU := Lib.hid hu
  have hgw := hb.size
  have KB := Lib.hid hb
  clear hu hb HK
  go_wp2_with fail
  refine (HC.out w1 KB.out).mono ?_
  rintro e w2 ⟨lv, rfl, hr, hb⟩
  obtain ⟨A1, c1, rfl, _⟩ := hr.reads
  have HR := Lib.hid hr
  have HU2 := Lib.hid (HU.out.grow hb)
  have KB2 := Lib.hid (KB.out.trans (hb.mono KB.out.size))
  clear hr hb HC KB HU
  go_upto_region 5 with fail
  have X0 := Lib.hid (show XB (w2.alloc (.cells #[.slice A1 (il l).length c1, .slice (some ⟨G, 0, none⟩) l.length l.length, .int .i64 0, .int .i64 0, .int .i64 0, .int .i64 0, .int .i64 0, .int .i64 0, .int .i64 0, .int .i64 0, .int .i64 0, .int .i64 0, .int .i64 0, .int .i64 0, .int .i64 0, .int .i64 0, .int .i64 0, .int .i64 0, .slice none 0 0] 118)) w2.heap.size 19 118 (cdf (.slice A1 (il l).length c1) (.slice (some ⟨G, 0, none⟩) l.length l.length) (Pf.cc l 0 0) (.slice none 0 0)) from by
    have e : Fx 19 (cdf (.slice A1 (il l).length c1) (.slice (some ⟨G, 0, none⟩) l.length l.length) (fun _ => 0) (.slice none 0 0)) = Fx 19 (cdf (.slice A1 (il l).length c1) (.slice (some ⟨G, 0, none⟩) l.length l.length) (Pf.cc l 0 0) (.slice none 0 0)) := Fx_ext fun k hk => by
      have e2 : Pf.cc l 0 0 (k - 2) = 0 := by
        unfold Pf.cc
        rw [List.take_zero, List.count_nil]
        by_cases e3 : k - 2 = 0
        · rw [if_pos e3]
        · rw [if_neg e3, if_neg (by omega)]
          split <;> rfl
      unfold cdf
      rw [e2]
    unfold XB
    rw [← e]
    exact heap_alloc_new _ _)
  have ka := (Below.refl w2.heap.size w2).alloc (Nat.le_refl _) (.cells #[.slice A1 (il l).length c1, .slice (some ⟨G, 0, none⟩) l.length l.length, .int .i64 0, .int .i64 0, .int .i64 0, .int .i64 0, .int .i64 0, .int .i64 0, .int .i64 0, .int .i64 0, .int .i64 0, .int .i64 0, .int .i64 0, .int .i64 0, .int .i64 0, .int .i64 0, .int .i64 0, .int .i64 0, .slice none 0 0] 118)
  have KA := Lib.hid ka
  clear ka
  generalize w2.alloc (.cells #[.slice A1 (il l).length c1, .slice (some ⟨G, 0, none⟩) l.length l.length, .int .i64 0, .int .i64 0, .int .i64 0, .int .i64 0, .int .i64 0, .int .i64 0, .int .i64 0, .int .i64 0, .int .i64 0, .int .i64 0, .int .i64 0, .int .i64 0, .int .i64 0, .int .i64 0, .int .i64 0, .int .i64 0, .slice none 0 0] 118) = W0 at X0 KA ⊢
  obtain ⟨b, HBE⟩ : ∃ b, Hid (b = w2.heap.size) := ⟨_, Lib.hid rfl⟩
  rw [← HBE.out] at X0 KA ⊢
  have hbw : w.heap.size ≤ b := by rw [HBE.out]; exact KB2.out.size
  generalize hlv : Value.slice A1 (il l).length c1 = lv at *
  generalize hwo : Value.slice (some ⟨G, 0, none⟩) l.length l.length = wo at *
  clear hlv
  have HWO := Lib.hid hwo
  clear hwo
  go_upto_region 6 with fail
  go_loopw [7] (fun s7 wr => ∃ (m : Nat) (ov : Value), m ≤ 15 ∧ s7 = .int .i64 ((m : Int) + 1) ∧ XB wr b 19 118 (cdf lv wo (Pf.cc l m 0) ov) ∧ IRow wr (b + 1) ov (il (Pf.ord l m)) ∧ Below b w2 wr) (fun s7 _ => 16 - (intOf s7).toNat)
  case atStart => exact ⟨0, _, by decide, rfl, X0.out, IRow.nil _ _, KA.out⟩
  case round =>
    obtain ⟨m, ov, hm, rfl, hX, hI, hK⟩ := hrel
    have HX1 := Lib.hid hX
    have HI1 := Lib.hid hI
    have K := Lib.hid hK
    clear X0 KA hX hI hK
    by_cases h1 : m < 15
    · as_aux_lemma =>
      have p1 : ((m : Int) + 1) ≤ 15 := by omega
      go_upto_region 9 with fail
      go_loopw [29] (fun s29 wr => ∃ (i : Nat) (ov : Value), i ≤ l.length ∧ s29 = .int .i64 (i : Nat) ∧ XB wr b 19 118 (cdf lv wo (Pf.cc l m i) ov) ∧ IRow wr (b + 1) ov (il (Pf.ord l m ++ Pf.pos l (m + 1) i)) ∧ Below b w2 wr) (fun s29 _ => l.length - (intOf s29).toNat)
      case atStart => exact ⟨0, ov, Nat.zero_le _, rfl, HX1.out, by simpa [Pf.pos] using HI1.out, K.out⟩
      case round =>
        obtain ⟨i, ov, hi, rfl, hX, hI, hK⟩ := hrel
        obtain ⟨A2, c2, rfl, _⟩ := hI.reads
        have HX2 := Lib.hid hX
        have HI2 := Lib.hid hI
        have K2 := Lib.hid hK
        clear HX1 HI1 K
        have KT := KB2.out.trans (show Below w.heap.size w2 wr from hK.mono (by omega))
        by_cases h2 : i < l.length
        · as_aux_lemma =>
          obtain ⟨g, o, n', rfl, hgz, hx, hc⟩ := (HX.out.grow KT).at_ (i := i) (by rw [il_len]; exact h2)
          obtain ⟨n, hln⟩ : ∃ n, l[i]? = some n := ⟨_, List.getElem?_eq_getElem h2⟩
          rw [il_get hln] at hx
          cases hx
          have q3 : ¬ ((i : Int) < 0) := by omega
          have HLN := Lib.hid hln
          have PN := Lib.hid (Pf.pos_next l (m + 1) i)
          clear hln KT
          by_cases h3 : n = m + 1
          · subst h3
            have c1 := hX.cell (k := 2 + (m + 1)) (by omega)
            rw [show cdf lv wo (Pf.cc l m i) (.slice A2 (il (Pf.ord l m ++ Pf.pos l (m + 1) i)).length c2) (2 + (m + 1)) = .int .i64 (((l.take i).count (m + 1) : Nat) : Int) from by
              unfold cdf Pf.cc
              rw [if_neg (by omega), if_neg (by omega), if_neg (by omega), show 2 + (m + 1) - 2 = m + 1 by omega, if_neg (by omega), if_neg (by omega), if_pos rfl]] at c1
            have f1 := (blk_facts hX).2 (2 + (m + 1))
            have fz := hX.lt
            have hcn : (l.take i).count (m + 1) ≤ 1000 := Nat.le_trans List.count_le_length (by rw [List.length_take]; omega)
            obtain ⟨ct, HCT⟩ : ∃ ct, Hid (ct = (l.take i).count (m + 1)) := ⟨_, Lib.hid rfl⟩
            rw [← HCT.out] at c1 hcn
            have q4 : ((m : Int) + 1) < 16 := by omega
            have hX3 := hX.set (i := 2 + (m + 1)) (c := .int .i64 ((ct + 1 : Nat) : Int)) (g := cdf lv wo (Pf.cc l m (i + 1)) (.slice A2 (il (Pf.ord l m ++ Pf.pos l (m + 1) i)).length c2)) (fun k hk => by
              unfold cdf Pf.cc
              rw [take_next HLN.out, List.count_append, List.count_singleton]
              by_cases e : k = 2 + (m + 1)
              · subst e
                rw [if_neg (by omega), if_neg (by omega), if_neg (by omega), if_pos rfl, show 2 + (m + 1) - 2 = m + 1 by omega, if_neg (by omega), if_neg (by omega), if_pos rfl, HCT.out]
                simp
              · rw [if_neg e]
                by_cases e0 : k = 0
                · rw [if_pos e0, if_pos e0]
                · by_cases e1 : k = 1
                  · rw [if_neg e0, if_neg e0, if_pos e1, if_pos e1]
                  · by_cases e2 : k = 18
                    · rw [if_neg e0, if_neg e0, if_neg e1, if_neg e1, if_pos e2, if_pos e2]
                    · have e5 : (m + 1 == k - 2) = false := beq_eq_false_iff_ne.2 (by omega)
                      rw [if_neg e0, if_neg e0, if_neg e1, if_neg e1, if_neg e2, if_neg e2, e5]
                      simp)
            have kd : Below (wr.setCell ⟨b, 2 + (m + 1), none⟩ (.int .i64 ((ct + 1 : Nat) : Int))).heap.size (wr.setCell ⟨b, 2 + (m + 1), none⟩ (.int .i64 ((ct + 1 : Nat) : Int))) (wr.setCell ⟨b, 2 + (m + 1), none⟩ (.int .i64 ((ct + 1 : Nat) : Int))).drew := (Below.refl _ _).drew
            have HX3 := Lib.hid (hX3.grow kd)
            have HI3 := Lib.hid (show IRow (wr.setCell ⟨b, 2 + (m + 1), none⟩ (.int .i64 ((ct + 1 : Nat) : Int))).drew (b + 1) (.slice A2 (il (Pf.ord l m ++ Pf.pos l (m + 1) i)).length c2) (il (Pf.ord l m ++ Pf.pos l (m + 1) i)) from
              IRow.grow (World.ownsRow.kept hI (⟨rfl, rfl, rfl, by simp [World.setCell], fun g _ hg => set_else' _ _ (by show b ≠ g; exact fun e => hg (by rw [e]))⟩ : wr.grownBy (wr.setCell ⟨b, 2 + (m + 1), none⟩ (.int .i64 ((ct + 1 : Nat) : Int))) (some b)) (.inr (fun e => by have := hI.base_le e; omega))) kd)
            have K3 := Lib.hid (show Below b w2 (wr.setCell ⟨b, 2 + (m + 1), none⟩ (.int .i64 ((ct + 1 : Nat) : Int))).drew from (K2.out.setCell (Nat.le_refl _) _).drew)
            clear hX hI hK hX3 kd HX2 HI2 K2
            go_upto_region 12 with fail
            go_region
            clear c1 f1 fz HCT
            rw [show ((ct : Int) + 1) = ((ct + 1 : Nat) : Int) from rfl]
            generalize (wr.setCell ⟨b, 2 + (m + 1), none⟩ (.int .i64 ((ct + 1 : Nat) : Int))).drew = W3 at HX3 HI3 K3 ⊢
            have c1 := HX3.out.cell (k := 18) (by decide)
            rw [show cdf lv wo (Pf.cc l m (i + 1)) (.slice A2 (il (Pf.ord l m ++ Pf.pos l (m + 1) i)).length c2) 18 = .slice A2 (il (Pf.ord l m ++ Pf.pos l (m + 1) i)).length c2 from rfl] at c1
            have fz := HX3.out.lt
            have kz := Lib.hid (fun z : Int => (Below.refl W3.heap.size W3).alloc (Nat.le_refl _) (.cells #[.int .i64 z] 3))
            have hol : (il (Pf.ord l m ++ Pf.pos l (m + 1) i)).length ≤ 100000 := by
              rw [il_len, List.length_append]
              have a1 := Pf.ord_len l m
              have a2 := Pf.pos_len l (m + 1) i
              have a3 : m * l.length ≤ 15 * 1000 := Nat.mul_le_mul (by omega) hn
              omega
            have HOL := Lib.hid hol
            clear hol
            go_wp2_with (at_builtin; refine wpList_appI rfl _ _ rfl (b + 1) _ (il (Pf.ord l m ++ Pf.pos l (m + 1) i)) rfl (HI3.out.grow (kz.out _)) _ [(i : Int)] rfl (src_block Try.underlying56 1 1 1 _ _ 3 (0, 0) (heap_alloc_new _ _) rfl (by simp [Value.oneCell'])) (by have := HOL.out; simp; omega) (Nat.le_trans fz (kz.out _).size) ?_; intro v7 x7 hr7 hp7; obtain ⟨A7, d7, e7, _⟩ := hr7.reads; subst e7; have hx7 := XB.grow HX3.out (kz.out (i : Int)); have hne7 : some b ≠ (Value.slice A2 (il (Pf.ord l m ++ Pf.pos l (m + 1) i)).length c2).ownBlock := fun e => by { have := HI3.out.base_le e.symm; omega }; have hb7 := (hp7.1.block b hx7.lt hne7).trans hx7; have c7 := XB.cell (k := 18) hb7 (by decide); have f7 := (blk_facts hb7).2 18; have z7 := XB.lt hb7; have q7 := Lib.hid (And.intro hr7 (And.intro hp7 hb7)); clear hr7 hp7 hx7 hne7 hb7)
            obtain ⟨hr7, hp7, hb7⟩ := q7.out
            have le7 : (il (Pf.ord l m ++ Pf.pos l (m + 1) i) ++ [(i : Int)]).length = (il (Pf.ord l m ++ Pf.pos l (m + 1) i)).length + 1 := by simp
            have es7 : il (Pf.ord l m ++ Pf.pos l (m + 1) i) ++ [(i : Int)] = il (Pf.ord l m ++ Pf.pos l (m + 1) (i + 1)) := by
              rw [PN.out, if_pos HLN.out, ← List.append_assoc, il_append (Pf.ord l m ++ Pf.pos l (m + 1) i)]
              rfl
            rw [le7] at hr7 hp7
            have kq : Below b W3 x7 := ((kz.out (i : Int)).mono (Nat.le_of_lt fz)).trans (hp7.below (Nat.le_trans (Nat.le_of_lt fz) (kz.out _).size) (fun k hk => by have := HI3.out.base_le hk; omega))
            refine ⟨⟨i + 1, .slice A7 ((il (Pf.ord l m ++ Pf.pos l (m + 1) i)).length + 1) d7, h2, rfl, XB.set hb7 (i := 18) (fun k hk => ?_), ?_, ?_⟩, next_less h2⟩
            · unfold cdf
              by_cases e : k = 18
              · subst e; rfl
              · rw [if_neg e, if_neg e, if_neg e]
            · rw [← es7]
              exact World.ownsRow.kept hr7 (⟨rfl, rfl, rfl, by simp [World.setCell], fun g _ hg => set_else' _ _ (by show b ≠ g; exact fun e => hg (by rw [e]))⟩ : x7.grownBy (x7.setCell ⟨b, 18, none⟩ (.slice A7 ((il (Pf.ord l m ++ Pf.pos l (m + 1) i)).length + 1) d7)) (some b)) (.inr (fun e => by have := IRow.base_le hr7 e; omega))
            · exact (K3.out.trans kq).setCell (Nat.le_refl _) _
          · have q4 : ((n : Int) == (m : Int) + 1) = false := beq_eq_false_iff_ne.2 (by omega)
            clear hX hI hK
            go_wp2_with fail
            refine ⟨⟨i + 1, .slice A2 (il (Pf.ord l m ++ Pf.pos l (m + 1) i)).length c2, h2, rfl, HX2.out.ext (fun k hk => ?_), ?_, K2.out⟩, next_less h2⟩
            · unfold cdf Pf.cc
              by_cases e0 : k = 0
              · rw [if_pos e0, if_pos e0]
              · by_cases e1 : k = 1
                · rw [if_neg e0, if_neg e0, if_pos e1, if_pos e1]
                · by_cases e2 : k = 18
                  · rw [if_neg e0, if_neg e0, if_neg e1, if_neg e1, if_pos e2, if_pos e2]
                  · rw [if_neg e0, if_neg e0, if_neg e1, if_neg e1, if_neg e2, if_neg e2]
                    by_cases e3 : k - 2 = m + 1
                    · rw [e3, if_neg (by omega), if_neg (by omega), if_pos rfl, if_neg (by omega), if_neg (by omega), if_pos rfl, take_next HLN.out, List.count_append, List.count_singleton, if_neg (by simpa using h3)]
                      rfl
                    · rw [if_neg e3, if_neg e3]
            · have e4 : Pf.pos l (m + 1) (i + 1) = Pf.pos l (m + 1) i := by
                rw [PN.out, if_neg (by rw [HLN.out]; simpa using h3), List.append_nil]
              rw [e4]
              exact HI2.out
        · as_aux_lemma =>
          have hie : i = l.length := by omega
          subst hie
          have es7 := Pf.ord_next l m
          have HX3 := Lib.hid (HX2.out.ext (g := cdf lv wo (Pf.cc l (m + 1) 0) (.slice A2 (il (Pf.ord l m ++ Pf.pos l (m + 1) l.length)).length c2)) (fun k hk => by
            unfold cdf Pf.cc
            rw [List.take_length, List.take_zero, List.count_nil]
            by_cases e3 : k - 2 = m + 1
            · rw [e3, if_neg (by omega : ¬ (m + 1 = 0)), if_neg (by omega : ¬ (m + 1 = 0)), if_neg (by omega : ¬ (m + 1 ≤ m)), if_pos rfl, if_pos (Nat.le_refl _)]
            · by_cases e4 : k - 2 ≤ m
              · rw [if_pos e4, if_pos (show k - 2 ≤ m + 1 by omega)]
              · rw [if_neg e4, if_neg e3, if_neg (show ¬ (k - 2 ≤ m + 1) by omega)]
                simp only [ite_self]))
          have HI3 := HI2.out
          rw [← es7] at HI3 HX3
          have HI4 := Lib.hid HI3
          clear hX hI hK HX2 HI2 HI3 KT es7
          go_wp2_with fail
          refine ⟨⟨m + 1, _, by omega, rfl, HX3.out, HI4.out, K2.out⟩, ?_⟩
          show 16 - ((m : Int) + 1 + 1).toNat < 16 - ((m : Int) + 1).toNat
          omega
    · as_aux_lemma =>
      obtain rfl : m = 15 := by omega
      go_wp2_with fail
      go_ret2
      refine ⟨b, lv, G, ov, rfl, ?_, ?_, ?_, ?_, hg, hbw, ?_⟩
      · rw [HWO.out]
        exact HX1.out
      · exact irow_lower (IRow.grow HR.out (K.out.mono (by rw [HBE.out]; exact Nat.le_refl _))) hgw
      · exact HU2.out.grow (K.out.mono (by rw [HBE.out]; exact Nat.le_refl _))
      · exact irow_lower HI1.out (by omega)
      · exact KB2.out.trans (K.out.mono hbw)
end Go.Proofs.Ytjbbhfloomejoaa
