/- Joined texts: VOff, Check, RCheck. -/
import Derived.Test.YtkdamaomhppkgaaGreatPk2
/- Rows of values of the call's own, popped from the front or the end; what stays to be done in the document's order: plain law. -/
namespace Go.Proofs.YtkdamaomhppkgaaGreat
open Go.RowKit

def VOff (w : World) (base : Nat) (v : Value) (xs : List Pv) : Prop := OffRow w base 36 6 v xs.length (vc xs)
theorem VOff.of {w : World} {base : Nat} {v : Value} {xs : List Pv} (h : VRow w base v xs) : VOff w base v xs := OffRow.of_own h
theorem VOff.grow {w w1 : World} {base : Nat} {v : Value} {xs : List Pv} (h : VOff w base v xs) (k : Below w.heap.size w w1) : VOff w1 base v xs := OffRow.grow h k
theorem VOff.lower {w : World} {base b' : Nat} {v : Value} {xs : List Pv} (h : VOff w base v xs) (hb : b' ≤ base) : VOff w b' v xs := OffRow.lower h hb
theorem VOff.app {w : World} {base : Nat} {v : Value} {xs ys : List Pv} {n : Nat} (h : OffRow w base 36 6 v n (vc xs ++ vc ys)) (hn : n = xs.length + ys.length) : VOff w base v (xs ++ ys) := by
  unfold VOff
  rw [List.length_append, vc_append, ← hn]
  exact h
theorem VOff.reads {w : World} {base : Nat} {v : Value} {xs : List Pv} (h : VOff w base v xs) : ∃ A c, v = .slice A xs.length c ∧ Vals w A c xs := by
  rcases id h.2 with ⟨rfl, hn⟩ | ⟨g, o, cap, cur, rfl, h1, h2, h3, _⟩
  · obtain rfl : xs = [] := List.eq_nil_of_length_eq_zero hn
    exact ⟨none, 0, rfl, Vals.nil _ _ _⟩
  · refine ⟨_, cap, rfl, ⟨h3, fun _ => ⟨g, o, rfl, (Array.getElem?_eq_some_iff.1 h2).1, fun j x hx => ?_⟩⟩⟩
    obtain ⟨p0, p1, p2, p3, p4, p5⟩ := vc_get hx
    have c0 := OffRow.cells h _ _ p0
    have c1 := OffRow.cells h _ _ p1
    have c2 := OffRow.cells h _ _ p2
    have c3 := OffRow.cells h _ _ p3
    have c4 := OffRow.cells h _ _ p4
    have c5 := OffRow.cells h _ _ p5
    unfold VAt
    simp only [Nat.add_assoc]
    exact ⟨c0, c1, c2, c3, c4, c5⟩
/-- The first value and the rest. -/
theorem VOff.next {w : World} {base : Nat} {v : Value} {x : Pv} {xs : List Pv} (h : VOff w base v (x :: xs)) : ∃ g o c, v = .slice (some ⟨g, o, none⟩) (xs.length + 1) c ∧ base ≤ g ∧ g < w.heap.size ∧ xs.length + 1 ≤ c ∧ VAt w g o x ∧
    VOff w base (.slice (some (if c = 1 then ⟨g, o, none⟩ else ⟨g, o + 6, none⟩)) xs.length (c - 1)) xs := by
  rcases id h.2 with ⟨rfl, hn⟩ | ⟨g, o, cap, cur, rfl, h1, h2, h3, _⟩
  · simp at hn
  · obtain ⟨A, c, e, hV⟩ := h.reads
    injection e with e1 e2 e3
    subst e1 e3
    obtain ⟨g', o', e', hg, hc⟩ := hV.2 (by simp)
    cases e'
    refine ⟨g, o, cap, rfl, h1, hg, h3, by simpa using hc 0 x (by simp), ?_⟩
    have h7 : OffRow w base 36 6 (.slice (some ⟨g, o, none⟩) (xs.length + 1) cap) (xs.length + 1) ([.int .i64 x.tag, .string (bs x.text), .int .u64 x.bits, .string (bs x.cls), .string (bs x.name), .string (bs x.desc)] ++ vc xs) := h
    exact OffRow.next h7 rfl
/-- The last value and the rest. -/
theorem VOff.pop {w : World} {base : Nat} {v : Value} {x : Pv} {xs : List Pv} (h : VOff w base v (xs ++ [x])) : ∃ g o c, v = .slice (some ⟨g, o, none⟩) (xs.length + 1) c ∧ base ≤ g ∧ g < w.heap.size ∧ xs.length + 1 ≤ c ∧ VAt w g (o + xs.length * 6) x ∧
    VOff w base (.slice (some ⟨g, o, none⟩) xs.length c) xs := by
  rcases id h.2 with ⟨rfl, hn⟩ | ⟨g, o, cap, cur, rfl, h1, h2, h3, _⟩
  · simp at hn
  · obtain ⟨A, c, e, hV⟩ := h.reads
    injection e with e1 e2 e3
    subst e1 e3
    obtain ⟨g', o', e', hg, hc⟩ := hV.2 (by simp)
    cases e'
    refine ⟨g, o, cap, by simp, h1, hg, by simpa using h3, by simpa using hc xs.length x (by simp), ?_⟩
    have h7 : OffRow w base 36 6 (.slice (some ⟨g, o, none⟩) (xs.length + 1) cap) (xs.length + 1) (vc xs ++ vc [x]) := by
      have := h
      unfold VOff at this
      rw [vc_append] at this
      simpa using this
    exact OffRow.pop h7 (vc_length _)
theorem VOff.base_le {w : World} {base : Nat} {v : Value} {xs : List Pv} (h : VOff w base v xs) {k : Nat} (hk : v.ownBlock = some k) : base ≤ k ∧ k < w.heap.size := OffRow.base_le h hk
/-- append of whatever values onto such a row. -/
theorem wpList_appO {w : World} {ops : Array Oper} {rest : List Oper} {o : Oper} {a : Act} {Q : Exit → Act → World → Prop} (hgd : o.guard = none) (s x : Operand)
    (ho : o.op = .call { callee := .builtin .append, args := #[s, x], argTypes := #[22, 22] })
    (base : Nat) (v : Value) (xs : List Pv) (hv : a.eval s = v) (hown : VOff w base v xs) (X : Value) (ys : List Pv) (hX : a.eval x = X)
    (hs : Src Tryz.prog 6 22 X ys.length (vc ys) w) (hn : xs.length + ys.length ≤ 1000000000000) (hbase : base ≤ w.heap.size)
    (h : ∀ v' w', VOff w' base v' (xs ++ ys) → Hop w w' v.ownBlock v'.ownBlock → wpList Tryz.prog ops Q rest (a.put o.dst v') w') : wpList Tryz.prog ops Q (o :: rest) a w := by
  obtain ⟨i0, hi, hz0, hz1, hz2⟩ := info_parts infoVal
  refine wpList_append_off hgd s x 22 22 ho base 36 i0 _ 6 80 Tryz.underlying22 hi hz0 hz1 hz2 rfl v _ _ hv hown X ys.length (vc ys) hX (fun v' w' h1 h2 => h v' w' (VOff.app h1 rfl) h2) hs ?_ ?_ hbase
  · unfold maxLen; omega
  · omega

/-! ### The document's order: what stays to be done -/
structure Todo (low all F R T : List Pv) : Prop where
  fst : ∀ x, x ∈ F ↔ x ∈ low
  rises : R.Pairwise Pv.lt
  apart : ∀ x ∈ R, x ∉ F
  soundR : ∀ x ∈ R, x ∈ clAll (low ++ all)
  soundT : ∀ x ∈ T, x ∈ clAll (low ++ all)
  start : ∀ x ∈ all, x ∈ F ∨ x ∈ R ∨ x ∈ T
  need : ∀ x ∈ R, ∀ y ∈ x.needs, y ∈ F ∨ y ∈ R ∨ y ∈ T
  needF : ∀ x ∈ F, x ∈ T ∨ ∀ y ∈ x.needs, y ∈ F ∨ y ∈ R ∨ y ∈ T
section
variable {low all F R T : List Pv} {v : Pv}
theorem Todo.begin (hF : ∀ x, x ∈ F ↔ x ∈ low) : Todo low all F [] (F ++ all) where
  fst := hF
  rises := List.Pairwise.nil
  apart := by simp
  soundR := by simp
  soundT := fun x hx => by
    rw [List.mem_append, hF] at hx
    exact clAll_has (by simpa using hx)
  start := fun x hx => .inr (.inr (by simp [hx]))
  need := by simp
  needF := fun x hx => .inl (by simp [hx])
theorem Todo.add (h : Todo low all F R (v :: T)) (h1 : v ∉ F) (h2 : v ∉ R) : Todo low all F (putO Pv.lt R v) (T ++ v.needs) where
  fst := h.fst
  rises := putO_rises Pv.lin h.rises v
  apart := fun x hx => by
    rcases (putO_mem R v x).1 hx with hx | rfl
    · exact h.apart x hx
    · exact h1
  soundR := fun x hx => by
    rcases (putO_mem R v x).1 hx with hx | rfl
    · exact h.soundR x hx
    · exact h.soundT _ (by simp)
  soundT := fun x hx => by
    rcases List.mem_append.1 hx with hx | hx
    · exact h.soundT x (by simp [hx])
    · exact clAll_closed (h.soundT v (by simp)) hx
  start := fun x hx => by
    rw [putO_mem, List.mem_append]
    rcases h.start x hx with h3 | h3 | h3
    · exact .inl h3
    · exact .inr (.inl (.inl h3))
    · rcases List.mem_cons.1 h3 with rfl | h3
      · exact .inr (.inl (.inr rfl))
      · exact .inr (.inr (.inl h3))
  need := fun x hx y hy => by
    rw [putO_mem, List.mem_append]
    rcases (putO_mem R v x).1 hx with hx | rfl
    · rcases h.need x hx y hy with h3 | h3 | h3
      · exact .inl h3
      · exact .inr (.inl (.inl h3))
      · rcases List.mem_cons.1 h3 with rfl | h3
        · exact .inr (.inl (.inr rfl))
        · exact .inr (.inr (.inl h3))
    · exact .inr (.inr (.inr hy))
  needF := fun x hx => by
    have step : ∀ y, y ∈ F ∨ y ∈ R ∨ y ∈ v :: T → y ∈ F ∨ y ∈ putO Pv.lt R v ∨ y ∈ T ++ v.needs := fun y h3 => by
      rw [putO_mem, List.mem_append]
      rcases h3 with h3 | h3 | h3
      · exact .inl h3
      · exact .inr (.inl (.inl h3))
      · rcases List.mem_cons.1 h3 with rfl | h3
        · exact .inr (.inl (.inr rfl))
        · exact .inr (.inr (.inl h3))
    rcases h.needF x hx with h3 | h3
    · rcases List.mem_cons.1 h3 with rfl | h3
      · exact absurd hx h1
      · exact .inl (by simp [h3])
    · exact .inr fun y hy => step y (h3 y hy)
/-- What of a low one's needs is to be done. -/
def lacks (F R : List Pv) (l : List Pv) : List Pv := l.filter fun x => decide (x ∉ F) && decide (x ∉ R)
theorem Todo.lows (h : Todo low all F R (v :: T)) (h1 : v ∈ F) : Todo low all F R (T ++ lacks F R v.needs) := by
  have hl : ∀ y ∈ v.needs, y ∈ F ∨ y ∈ R ∨ y ∈ T ++ lacks F R v.needs := fun y hy => by
    by_cases a : y ∈ F
    · exact .inl a
    · by_cases b : y ∈ R
      · exact .inr (.inl b)
      · exact .inr (.inr (by simp [lacks, hy, a, b]))
  have step : ∀ y, y ∈ F ∨ y ∈ R ∨ y ∈ v :: T → y ∈ F ∨ y ∈ R ∨ y ∈ T ++ lacks F R v.needs := fun y h3 => by
    rcases h3 with h3 | h3 | h3
    · exact .inl h3
    · exact .inr (.inl h3)
    · rcases List.mem_cons.1 h3 with rfl | h3
      · exact .inl h1
      · exact .inr (.inr (by simp [h3]))
  refine ⟨h.fst, h.rises, h.apart, h.soundR, fun x hx => ?_, fun x hx => step x (h.start x hx), fun x hx y hy => step y (h.need x hx y hy), fun x hx => ?_⟩
  · rcases List.mem_append.1 hx with hx | hx
    · exact h.soundT x (by simp [hx])
    · exact clAll_closed (h.soundT v (by simp)) (List.mem_filter.1 hx).1
  · rcases h.needF x hx with h3 | h3
    · rcases List.mem_cons.1 h3 with rfl | h3
      · exact .inr hl
      · exact .inl (by simp [h3])
    · exact .inr fun y hy => step y (h3 y hy)
theorem Todo.old (h : Todo low all F R (v :: T)) (h1 : v ∉ F) (h2 : v ∈ R) : Todo low all F R T := by
  have step : ∀ y, y ∈ F ∨ y ∈ R ∨ y ∈ v :: T → y ∈ F ∨ y ∈ R ∨ y ∈ T := fun y h3 => by
    rcases h3 with h3 | h3 | h3
    · exact .inl h3
    · exact .inr (.inl h3)
    · rcases List.mem_cons.1 h3 with rfl | h3
      · exact .inr (.inl h2)
      · exact .inr (.inr h3)
  refine ⟨h.fst, h.rises, h.apart, h.soundR, fun x hx => h.soundT x (by simp [hx]), fun x hx => step x (h.start x hx), fun x hx y hy => step y (h.need x hx y hy), fun x hx => ?_⟩
  rcases h.needF x hx with h3 | h3
  · rcases List.mem_cons.1 h3 with rfl | h3
    · exact absurd hx h1
    · exact .inl h3
  · exact .inr fun y hy => step y (h3 y hy)
theorem Todo.fin (h : Todo low all F R []) : R = Pv.rest low all := by
  refine rises_uniq Pv.lin h.rises (sd_rises Pv.lin _) fun x => ?_
  show x ∈ R ↔ x ∈ Pv.rest low all
  rw [Pv.rest_mem]
  constructor
  · intro hx
    exact ⟨h.soundR x hx, fun e => h.apart x hx ((h.fst x).2 e)⟩
  · rintro ⟨hx, hn⟩
    have : x ∈ F ∨ x ∈ R := by
      refine clAll_least (S := fun x => x ∈ F ∨ x ∈ R) (fun y hy => ?_) (fun y hy z hz => ?_) hx
      · rcases List.mem_append.1 hy with hy | hy
        · exact .inl ((h.fst y).2 hy)
        · rcases h.start y hy with h3 | h3 | h3
          · exact .inl h3
          · exact .inr h3
          · simp at h3
      · rcases hy with hy | hy
        · rcases h.needF y hy with h3 | h3
          · simp at h3
          · rcases h3 z hz with h4 | h4 | h4
            · exact .inl h4
            · exact .inr h4
            · simp at h4
        · rcases h.need y hy z hz with h4 | h4 | h4
          · exact .inl h4
          · exact .inr h4
          · simp at h4
    rcases this with h3 | h3
    · exact absurd ((h.fst x).1 h3) hn
    · exact h3
end
/-- How many steps are to come at most. -/
def wts (l : List Pv) : Nat := (l.map Pv.wt).sum
theorem wts_cons (v : Pv) (l : List Pv) : wts (v :: l) = v.wt + wts l := by simp [wts]
theorem wts_append (a b : List Pv) : wts (a ++ b) = wts a + wts b := by simp [wts]
theorem wts_needs (v : Pv) : wts v.needs < v.wt := Pv.wt_needs v
theorem wts_filter (p : Pv → Bool) : ∀ l : List Pv, wts (l.filter p) ≤ wts l
  | [] => Nat.le_refl _
  | x :: l => by
    have := wts_filter p l
    rw [List.filter_cons]
    split
    · rw [wts_cons, wts_cons]; omega
    · rw [wts_cons]; omega
theorem wts_lacks (F R : List Pv) (v : Pv) : wts (lacks F R v.needs) < v.wt := Nat.lt_of_le_of_lt (wts_filter _ _) (wts_needs v)
theorem wt_pos (v : Pv) : 0 < v.wt := by simp [Pv.wt, Pv.cl]
theorem wts_len : ∀ l : List Pv, l.length ≤ wts l
  | [] => Nat.le_refl _
  | x :: l => by
    have := wts_len l
    have := wt_pos x
    rw [wts_cons, List.length_cons]; omega
theorem wts_le : ∀ l : List Pv, wts l ≤ 7 * l.length
  | [] => Nat.le_refl _
  | x :: l => by
    have := wts_le l
    have := x.wt_le
    rw [wts_cons, List.length_cons]; omega
theorem putO_len (l : List Pv) (v : Pv) : (putO Pv.lt l v).length ≤ l.length + 1 := by
  unfold putO
  split
  · omega
  · have := congrArg List.length (List.takeWhile_append_dropWhile (p := fun x => decide (Pv.lt x v)) (l := l))
    simp only [List.length_append, List.length_cons] at this ⊢
    omega
end Go.Proofs.YtkdamaomhppkgaaGreat

/- The walk of layer 19: what is wrong with a value, by the program. Printed by mk_check.py. -/
namespace Go.Proofs.YtkdamaomhppkgaaGreat
open Go.RowKit

set_option maxHeartbeats 4000000 in
theorem check_one (tag : Int) (text : List UInt8) (bits : Nat) (cls name desc : List UInt8) (w : World) (h : (tag = 1 ∨ tag = 7 ∨ tag = 8)) :
    Calls Tryz.prog 41 #[.agg #[.int .i64 tag, .string (bs text), .int .u64 bits, .string (bs cls), .string (bs name), .string (bs desc)]] w fun e w' => e = .returned (.int .i64 (if Pv.mk 0 [] bits cls name desc = Pv.zero then 0 else 9)) ∧ Below w.heap.size w w' := by
  have k1 := Lib.hid (Below.alloc' ((Below.refl w.heap.size w).alloc (Nat.le_refl _) (.cells #[.int .i64 tag, .string (bs text), .int .u64 bits, .string (bs cls), .string (bs name), .string (bs desc)] 36)) (Nat.le_refl _) (.cells #[.int .i64 0, .string ⟨#[]⟩, .int .u64 bits, .string (bs cls), .string (bs name), .string (bs desc)] 36))
  by_cases hz : Pv.mk 0 [] bits cls name desc = Pv.zero
  · have he : ∀ x, (Op.equalIn 10000 36 (.agg #[.int .i64 0, .string ⟨#[]⟩, .int .u64 bits, .string (bs cls), .string (bs name), .string (bs desc)]) (.agg #[.int .i64 0, .string ⟨#[]⟩, .int .u64 0, .string ⟨#[]⟩, .string ⟨#[]⟩, .string ⟨#[]⟩])).run Tryz.prog x = .ok true x := fun x => (eq_val (Pv.mk 0 [] bits cls name desc) Pv.zero x).trans (by rw [decide_eq_true hz])
    rw [if_pos hz]
    have hb0 := Lib.hid (show bits = 0 by unfold Pv.zero at hz; injection hz)
    clear hz
    rcases h with rfl | rfl | rfl
    · go_enter Tryz.func41, Tryz.ntmps41
      go_wp2_with fail
      refine (wide_any 1 _).mono ?_
      rintro e w1 ⟨rfl, rfl⟩
      have hsh : ((bits : Int) / 4294967296 != 0) = false := by rw [hb0.out]; rfl
      go_wp2
      go_ret
      exact ⟨rfl, k1.out⟩
    · go_enter Tryz.func41, Tryz.ntmps41
      go_wp2_with fail
      refine (wide_any 7 _).mono ?_
      rintro e w1 ⟨rfl, rfl⟩
      have hsh : ((bits : Int) / 4294967296 != 0) = false := by rw [hb0.out]; rfl
      go_wp2
      go_ret
      exact ⟨rfl, k1.out⟩
    · go_enter Tryz.func41, Tryz.ntmps41
      go_wp2_with fail
      refine (wide_any 8 _).mono ?_
      rintro e w1 ⟨rfl, rfl⟩
      have hsh : ((bits : Int) / 4294967296 != 0) = false := by rw [hb0.out]; rfl
      go_wp2
      go_ret
      exact ⟨rfl, k1.out⟩
  · have he : ∀ x, (Op.equalIn 10000 36 (.agg #[.int .i64 0, .string ⟨#[]⟩, .int .u64 bits, .string (bs cls), .string (bs name), .string (bs desc)]) (.agg #[.int .i64 0, .string ⟨#[]⟩, .int .u64 0, .string ⟨#[]⟩, .string ⟨#[]⟩, .string ⟨#[]⟩])).run Tryz.prog x = .ok false x := fun x => (eq_val (Pv.mk 0 [] bits cls name desc) Pv.zero x).trans (by rw [decide_eq_false hz])
    rw [if_neg hz]
    clear hz
    rcases h with rfl | rfl | rfl
    · go_enter Tryz.func41, Tryz.ntmps41
      go_wp2
      go_ret
      exact ⟨rfl, k1.out⟩
    · go_enter Tryz.func41, Tryz.ntmps41
      go_wp2
      go_ret
      exact ⟨rfl, k1.out⟩
    · go_enter Tryz.func41, Tryz.ntmps41
      go_wp2
      go_ret
      exact ⟨rfl, k1.out⟩
set_option maxHeartbeats 4000000 in
theorem check_two (tag : Int) (text : List UInt8) (bits : Nat) (cls name desc : List UInt8) (w : World) (h : (tag = 3 ∨ tag = 4 ∨ tag = 5 ∨ tag = 6)) :
    Calls Tryz.prog 41 #[.agg #[.int .i64 tag, .string (bs text), .int .u64 bits, .string (bs cls), .string (bs name), .string (bs desc)]] w fun e w' => e = .returned (.int .i64 (if Pv.mk 0 text 0 cls name desc = Pv.zero then (if (tag = 3 ∨ tag = 4) ∧ 4294967296 ≤ bits then 5 else 0) else 9)) ∧ Below w.heap.size w w' := by
  have k1 := Lib.hid (Below.alloc' ((Below.refl w.heap.size w).alloc (Nat.le_refl _) (.cells #[.int .i64 tag, .string (bs text), .int .u64 bits, .string (bs cls), .string (bs name), .string (bs desc)] 36)) (Nat.le_refl _) (.cells #[.int .i64 0, .string (bs text), .int .u64 0, .string (bs cls), .string (bs name), .string (bs desc)] 36))
  by_cases hz : Pv.mk 0 text 0 cls name desc = Pv.zero
  · have he : ∀ x, (Op.equalIn 10000 36 (.agg #[.int .i64 0, .string (bs text), .int .u64 0, .string (bs cls), .string (bs name), .string (bs desc)]) (.agg #[.int .i64 0, .string ⟨#[]⟩, .int .u64 0, .string ⟨#[]⟩, .string ⟨#[]⟩, .string ⟨#[]⟩])).run Tryz.prog x = .ok true x := fun x => (eq_val (Pv.mk 0 text 0 cls name desc) Pv.zero x).trans (by rw [decide_eq_true hz])
    rw [if_pos hz]
    clear hz
    rcases h with rfl | rfl | rfl | rfl
    · by_cases hr : 4294967296 ≤ bits
      · rw [if_pos ⟨.inl rfl, hr⟩]
        have hsh := Lib.hid (show ((bits : Int) / 4294967296 != 0) = true by simp; omega)
        clear hr
        go_enter Tryz.func41, Tryz.ntmps41
        go_wp2_with fail
        refine (wide_any 3 _).mono ?_
        rintro e w1 ⟨rfl, rfl⟩
        have hsh' := hsh.out
        go_wp2
        go_ret
        exact ⟨rfl, k1.out⟩
      · rw [if_neg fun h => hr h.2]
        have hsh := Lib.hid (show ((bits : Int) / 4294967296 != 0) = false by simp; omega)
        clear hr
        go_enter Tryz.func41, Tryz.ntmps41
        go_wp2_with fail
        refine (wide_any 3 _).mono ?_
        rintro e w1 ⟨rfl, rfl⟩
        have hsh' := hsh.out
        go_wp2
        go_ret
        exact ⟨rfl, k1.out⟩
    · by_cases hr : 4294967296 ≤ bits
      · rw [if_pos ⟨.inr rfl, hr⟩]
        have hsh := Lib.hid (show ((bits : Int) / 4294967296 != 0) = true by simp; omega)
        clear hr
        go_enter Tryz.func41, Tryz.ntmps41
        go_wp2_with fail
        refine (wide_any 4 _).mono ?_
        rintro e w1 ⟨rfl, rfl⟩
        have hsh' := hsh.out
        go_wp2
        go_ret
        exact ⟨rfl, k1.out⟩
      · rw [if_neg fun h => hr h.2]
        have hsh := Lib.hid (show ((bits : Int) / 4294967296 != 0) = false by simp; omega)
        clear hr
        go_enter Tryz.func41, Tryz.ntmps41
        go_wp2_with fail
        refine (wide_any 4 _).mono ?_
        rintro e w1 ⟨rfl, rfl⟩
        have hsh' := hsh.out
        go_wp2
        go_ret
        exact ⟨rfl, k1.out⟩
    · rw [if_neg (by simp)]
      go_enter Tryz.func41, Tryz.ntmps41
      go_wp2_with fail
      refine (wide_any 5 _).mono ?_
      rintro e w1 ⟨rfl, rfl⟩
      go_wp2
      go_ret
      exact ⟨rfl, k1.out⟩
    · rw [if_neg (by simp)]
      go_enter Tryz.func41, Tryz.ntmps41
      go_wp2_with fail
      refine (wide_any 6 _).mono ?_
      rintro e w1 ⟨rfl, rfl⟩
      go_wp2
      go_ret
      exact ⟨rfl, k1.out⟩
  · have he : ∀ x, (Op.equalIn 10000 36 (.agg #[.int .i64 0, .string (bs text), .int .u64 0, .string (bs cls), .string (bs name), .string (bs desc)]) (.agg #[.int .i64 0, .string ⟨#[]⟩, .int .u64 0, .string ⟨#[]⟩, .string ⟨#[]⟩, .string ⟨#[]⟩])).run Tryz.prog x = .ok false x := fun x => (eq_val (Pv.mk 0 text 0 cls name desc) Pv.zero x).trans (by rw [decide_eq_false hz])
    rw [if_neg hz]
    clear hz
    rcases h with rfl | rfl | rfl | rfl
    · go_enter Tryz.func41, Tryz.ntmps41
      go_wp2
      go_ret
      exact ⟨rfl, k1.out⟩
    · go_enter Tryz.func41, Tryz.ntmps41
      go_wp2
      go_ret
      exact ⟨rfl, k1.out⟩
    · go_enter Tryz.func41, Tryz.ntmps41
      go_wp2
      go_ret
      exact ⟨rfl, k1.out⟩
    · go_enter Tryz.func41, Tryz.ntmps41
      go_wp2
      go_ret
      exact ⟨rfl, k1.out⟩
set_option maxHeartbeats 4000000 in
theorem check_pair (tag : Int) (text : List UInt8) (bits : Nat) (cls name desc : List UInt8) (w : World) (h : tag = 12) :
    Calls Tryz.prog 41 #[.agg #[.int .i64 tag, .string (bs text), .int .u64 bits, .string (bs cls), .string (bs name), .string (bs desc)]] w fun e w' => e = .returned (.int .i64 (if Pv.mk 0 text bits cls [] [] = Pv.zero then 0 else 9)) ∧ Below w.heap.size w w' := by
  have k1 := Lib.hid (Below.alloc' ((Below.refl w.heap.size w).alloc (Nat.le_refl _) (.cells #[.int .i64 tag, .string (bs text), .int .u64 bits, .string (bs cls), .string (bs name), .string (bs desc)] 36)) (Nat.le_refl _) (.cells #[.int .i64 0, .string (bs text), .int .u64 bits, .string (bs cls), .string ⟨#[]⟩, .string ⟨#[]⟩] 36))
  by_cases hz : Pv.mk 0 text bits cls [] [] = Pv.zero
  · have he : ∀ x, (Op.equalIn 10000 36 (.agg #[.int .i64 0, .string (bs text), .int .u64 bits, .string (bs cls), .string ⟨#[]⟩, .string ⟨#[]⟩]) (.agg #[.int .i64 0, .string ⟨#[]⟩, .int .u64 0, .string ⟨#[]⟩, .string ⟨#[]⟩, .string ⟨#[]⟩])).run Tryz.prog x = .ok true x := fun x => (eq_val (Pv.mk 0 text bits cls [] []) Pv.zero x).trans (by rw [decide_eq_true hz])
    rw [if_pos hz]
    have hb0 := Lib.hid (show bits = 0 by unfold Pv.zero at hz; injection hz)
    clear hz
    rcases h with rfl
    · go_enter Tryz.func41, Tryz.ntmps41
      go_wp2_with fail
      refine (wide_any 12 _).mono ?_
      rintro e w1 ⟨rfl, rfl⟩
      have hsh : ((bits : Int) / 4294967296 != 0) = false := by rw [hb0.out]; rfl
      go_wp2
      go_ret
      exact ⟨rfl, k1.out⟩
  · have he : ∀ x, (Op.equalIn 10000 36 (.agg #[.int .i64 0, .string (bs text), .int .u64 bits, .string (bs cls), .string ⟨#[]⟩, .string ⟨#[]⟩]) (.agg #[.int .i64 0, .string ⟨#[]⟩, .int .u64 0, .string ⟨#[]⟩, .string ⟨#[]⟩, .string ⟨#[]⟩])).run Tryz.prog x = .ok false x := fun x => (eq_val (Pv.mk 0 text bits cls [] []) Pv.zero x).trans (by rw [decide_eq_false hz])
    rw [if_neg hz]
    clear hz
    rcases h with rfl
    · go_enter Tryz.func41, Tryz.ntmps41
      go_wp2
      go_ret
      exact ⟨rfl, k1.out⟩
set_option maxHeartbeats 4000000 in
theorem check_memb (tag : Int) (text : List UInt8) (bits : Nat) (cls name desc : List UInt8) (w : World) (h : (tag = 9 ∨ tag = 10 ∨ tag = 11)) :
    Calls Tryz.prog 41 #[.agg #[.int .i64 tag, .string (bs text), .int .u64 bits, .string (bs cls), .string (bs name), .string (bs desc)]] w fun e w' => e = .returned (.int .i64 (if Pv.mk 0 text bits [] [] [] = Pv.zero then 0 else 9)) ∧ Below w.heap.size w w' := by
  have k1 := Lib.hid (Below.alloc' ((Below.refl w.heap.size w).alloc (Nat.le_refl _) (.cells #[.int .i64 tag, .string (bs text), .int .u64 bits, .string (bs cls), .string (bs name), .string (bs desc)] 36)) (Nat.le_refl _) (.cells #[.int .i64 0, .string (bs text), .int .u64 bits, .string ⟨#[]⟩, .string ⟨#[]⟩, .string ⟨#[]⟩] 36))
  by_cases hz : Pv.mk 0 text bits [] [] [] = Pv.zero
  · have he : ∀ x, (Op.equalIn 10000 36 (.agg #[.int .i64 0, .string (bs text), .int .u64 bits, .string ⟨#[]⟩, .string ⟨#[]⟩, .string ⟨#[]⟩]) (.agg #[.int .i64 0, .string ⟨#[]⟩, .int .u64 0, .string ⟨#[]⟩, .string ⟨#[]⟩, .string ⟨#[]⟩])).run Tryz.prog x = .ok true x := fun x => (eq_val (Pv.mk 0 text bits [] [] []) Pv.zero x).trans (by rw [decide_eq_true hz])
    rw [if_pos hz]
    have hb0 := Lib.hid (show bits = 0 by unfold Pv.zero at hz; injection hz)
    clear hz
    rcases h with rfl | rfl | rfl
    · go_enter Tryz.func41, Tryz.ntmps41
      go_wp2_with fail
      refine (wide_any 9 _).mono ?_
      rintro e w1 ⟨rfl, rfl⟩
      have hsh : ((bits : Int) / 4294967296 != 0) = false := by rw [hb0.out]; rfl
      go_wp2
      go_ret
      exact ⟨rfl, k1.out⟩
    · go_enter Tryz.func41, Tryz.ntmps41
      go_wp2_with fail
      refine (wide_any 10 _).mono ?_
      rintro e w1 ⟨rfl, rfl⟩
      have hsh : ((bits : Int) / 4294967296 != 0) = false := by rw [hb0.out]; rfl
      go_wp2
      go_ret
      exact ⟨rfl, k1.out⟩
    · go_enter Tryz.func41, Tryz.ntmps41
      go_wp2_with fail
      refine (wide_any 11 _).mono ?_
      rintro e w1 ⟨rfl, rfl⟩
      have hsh : ((bits : Int) / 4294967296 != 0) = false := by rw [hb0.out]; rfl
      go_wp2
      go_ret
      exact ⟨rfl, k1.out⟩
  · have he : ∀ x, (Op.equalIn 10000 36 (.agg #[.int .i64 0, .string (bs text), .int .u64 bits, .string ⟨#[]⟩, .string ⟨#[]⟩, .string ⟨#[]⟩]) (.agg #[.int .i64 0, .string ⟨#[]⟩, .int .u64 0, .string ⟨#[]⟩, .string ⟨#[]⟩, .string ⟨#[]⟩])).run Tryz.prog x = .ok false x := fun x => (eq_val (Pv.mk 0 text bits [] [] []) Pv.zero x).trans (by rw [decide_eq_false hz])
    rw [if_neg hz]
    clear hz
    rcases h with rfl | rfl | rfl
    · go_enter Tryz.func41, Tryz.ntmps41
      go_wp2
      go_ret
      exact ⟨rfl, k1.out⟩
    · go_enter Tryz.func41, Tryz.ntmps41
      go_wp2
      go_ret
      exact ⟨rfl, k1.out⟩
    · go_enter Tryz.func41, Tryz.ntmps41
      go_wp2
      go_ret
      exact ⟨rfl, k1.out⟩
set_option maxHeartbeats 4000000 in
theorem check_no (tag : Int) (text : List UInt8) (bits : Nat) (cls name desc : List UInt8) (w : World) (n1 : ¬ (tag = 1 ∨ tag = 7 ∨ tag = 8)) (n2 : ¬ (tag = 3 ∨ tag = 4 ∨ tag = 5 ∨ tag = 6)) (n3 : ¬ tag = 12) (n4 : ¬ (tag = 9 ∨ tag = 10 ∨ tag = 11)) :
    Calls Tryz.prog 41 #[.agg #[.int .i64 tag, .string (bs text), .int .u64 bits, .string (bs cls), .string (bs name), .string (bs desc)]] w fun e w' => e = .returned (.int .i64 9) ∧ Below w.heap.size w w' := by
  have k1 := Lib.hid (Below.alloc' ((Below.refl w.heap.size w).alloc (Nat.le_refl _) (.cells #[.int .i64 tag, .string (bs text), .int .u64 bits, .string (bs cls), .string (bs name), .string (bs desc)] 36)) (Nat.le_refl _) (.cells #[.int .i64 0, .string (bs text), .int .u64 bits, .string (bs cls), .string (bs name), .string (bs desc)] 36))
  have u1 : (tag == 1) = false := by simp; omega
  have u7 : (tag == 7) = false := by simp; omega
  have u8 : (tag == 8) = false := by simp; omega
  have u3 : (tag == 3) = false := by simp; omega
  have u4 : (tag == 4) = false := by simp; omega
  have u5 : (tag == 5) = false := by simp; omega
  have u6 : (tag == 6) = false := by simp; omega
  have u12 : (tag == 12) = false := by simp; omega
  have u9 : (tag == 9) = false := by simp; omega
  have u10 : (tag == 10) = false := by simp; omega
  have u11 : (tag == 11) = false := by simp; omega
  clear n1 n2 n3 n4
  go_enter Tryz.func41, Tryz.ntmps41
  go_wp2
  go_ret
  exact ⟨rfl, k1.out⟩
theorem check_any (v : Pv) (w : World) : Calls Tryz.prog 41 #[vv v] w fun e w' => e = .returned (.int .i64 (v.chk 0 9 5)) ∧ Below w.heap.size w w' := by
  obtain ⟨tag, text, bits, cls, name, desc⟩ := v
  rw [chk_form]
  split
  · rename_i h; exact check_one tag text bits cls name desc w h
  · rename_i n1
    split
    · rename_i h; exact check_two tag text bits cls name desc w h
    · rename_i n2
      split
      · rename_i h; exact check_pair tag text bits cls name desc w h
      · rename_i n3
        split
        · rename_i h; exact check_memb tag text bits cls name desc w h
        · rename_i n4; exact check_no tag text bits cls name desc w n1 n2 n3 n4
end Go.Proofs.YtkdamaomhppkgaaGreat

/- The walk of layer 19: what is wrong with a value, by the document. Printed by mk_rcheck.py. -/
namespace Go.Proofs.YtkdamaomhppkgaaGreat
open Go.RowKit

def Pv.form (t : Int) : Int := if t = 1 then 116 else if t = 3 ∨ t = 4 then 52 else if t = 5 ∨ t = 6 then 56 else if t = 7 ∨ t = 8 then 97 else if t = 9 ∨ t = 10 ∨ t = 11 ∨ t = 12 then 98 else 0
set_option maxHeartbeats 1000000 in
theorem form_any (t : Int) (w : World) : Calls Tryz.prog 65 #[.int .i64 t] w fun e w' => e = .returned (.int .u8 (Pv.form t)) ∧ w' = w := by
  by_cases h : t = 1 ∨ t = 3 ∨ t = 4 ∨ t = 5 ∨ t = 6 ∨ t = 7 ∨ t = 8 ∨ t = 9 ∨ t = 10 ∨ t = 11 ∨ t = 12
  · rcases h with rfl | rfl | rfl | rfl | rfl | rfl | rfl | rfl | rfl | rfl | rfl <;>
    · go_enter Tryz.func65, Tryz.ntmps65
      go_wp2
      go_ret
      exact ⟨rfl, rfl⟩
  · have hf : Pv.form t = 0 := by unfold Pv.form; rw [if_neg (by omega), if_neg (by omega), if_neg (by omega), if_neg (by omega), if_neg (by omega)]
    have u1 : (t == 1) = false := by simp; omega
    have u7 : (t == 7) = false := by simp; omega
    have u8 : (t == 8) = false := by simp; omega
    have u3 : (t == 3) = false := by simp; omega
    have u4 : (t == 4) = false := by simp; omega
    have u5 : (t == 5) = false := by simp; omega
    have u6 : (t == 6) = false := by simp; omega
    have u12 : (t == 12) = false := by simp; omega
    have u9 : (t == 9) = false := by simp; omega
    have u10 : (t == 10) = false := by simp; omega
    have u11 : (t == 11) = false := by simp; omega
    clear h
    go_enter Tryz.func65, Tryz.ntmps65
    go_wp2
    go_ret
    exact ⟨by rw [hf]; rfl, rfl⟩
set_option maxHeartbeats 4000000 in
set_option maxRecDepth 100000 in
theorem rcheck_1 (text : List UInt8) (bits : Nat) (cls name desc : List UInt8) (w : World) :
    Calls Tryz.prog 36 #[.agg #[.int .i64 1, .string (bs text), .int .u64 bits, .string (bs cls), .string (bs name), .string (bs desc)]] w fun e w' => e = .returned (.int .i64 (if bits = 0 ∧ cls = [] ∧ name = [] ∧ desc = [] then 0 else 9)) ∧ Below w.heap.size w w' := by
  have k1 := Lib.hid (Below.alloc' ((Below.refl w.heap.size w).alloc (Nat.le_refl _) (.cells #[.int .i64 1, .string (bs text), .int .u64 bits, .string (bs cls), .string (bs name), .string (bs desc)] 36)) (Nat.le_refl _) (.cells #[.int .i64 1, .string (bs text), .int .u64 0, .string ⟨#[]⟩, .string ⟨#[]⟩, .string ⟨#[]⟩] 36))
  have hiff : Pv.mk 1 text 0 [] [] [] = Pv.mk 1 text bits cls name desc ↔ (bits = 0 ∧ cls = [] ∧ name = [] ∧ desc = []) := by
    simp only [Pv.mk.injEq, true_and]
    constructor <;> (intro h; simp_all)
  by_cases hz : bits = 0 ∧ cls = [] ∧ name = [] ∧ desc = []
  · have he : ∀ x, (Op.equalIn 10000 36 (.agg #[.int .i64 1, .string (bs text), .int .u64 0, .string ⟨#[]⟩, .string ⟨#[]⟩, .string ⟨#[]⟩]) (.agg #[.int .i64 1, .string (bs text), .int .u64 bits, .string (bs cls), .string (bs name), .string (bs desc)])).run Tryz.prog x = .ok true x := fun x => (eq_val (Pv.mk 1 text 0 [] [] []) (Pv.mk 1 text bits cls name desc) x).trans (by rw [decide_eq_true (hiff.2 hz)])
    have hs : decide ((4294967296 : Int) ≤ (bits : Int)) = false := decide_eq_false (by have := hz.1; omega)
    rw [if_pos hz]
    clear hz hiff
    go_enter Tryz.func36, Tryz.ntmps36
    go_wp2_with fail
    refine (form_any 1 _).mono ?_
    rintro e w1 ⟨rfl, rfl⟩
    simp only [show Pv.form 1 = 116 from by simp [Pv.form]]
    go_wp2
    go_ret
    exact ⟨rfl, k1.out⟩
  · have he : ∀ x, (Op.equalIn 10000 36 (.agg #[.int .i64 1, .string (bs text), .int .u64 0, .string ⟨#[]⟩, .string ⟨#[]⟩, .string ⟨#[]⟩]) (.agg #[.int .i64 1, .string (bs text), .int .u64 bits, .string (bs cls), .string (bs name), .string (bs desc)])).run Tryz.prog x = .ok false x := fun x => (eq_val (Pv.mk 1 text 0 [] [] []) (Pv.mk 1 text bits cls name desc) x).trans (by rw [decide_eq_false (fun h => hz (hiff.1 h))])
    rw [if_neg hz]
    clear hz hiff
    go_enter Tryz.func36, Tryz.ntmps36
    go_wp2_with fail
    refine (form_any 1 _).mono ?_
    rintro e w1 ⟨rfl, rfl⟩
    simp only [show Pv.form 1 = 116 from by simp [Pv.form]]
    go_wp2
    go_ret
    exact ⟨rfl, k1.out⟩
set_option maxHeartbeats 4000000 in
set_option maxRecDepth 100000 in
theorem rcheck_7 (text : List UInt8) (bits : Nat) (cls name desc : List UInt8) (w : World) :
    Calls Tryz.prog 36 #[.agg #[.int .i64 7, .string (bs text), .int .u64 bits, .string (bs cls), .string (bs name), .string (bs desc)]] w fun e w' => e = .returned (.int .i64 (if bits = 0 ∧ cls = [] ∧ name = [] ∧ desc = [] then 0 else 9)) ∧ Below w.heap.size w w' := by
  have k1 := Lib.hid (Below.alloc' ((Below.refl w.heap.size w).alloc (Nat.le_refl _) (.cells #[.int .i64 7, .string (bs text), .int .u64 bits, .string (bs cls), .string (bs name), .string (bs desc)] 36)) (Nat.le_refl _) (.cells #[.int .i64 7, .string (bs text), .int .u64 0, .string ⟨#[]⟩, .string ⟨#[]⟩, .string ⟨#[]⟩] 36))
  have hiff : Pv.mk 7 text 0 [] [] [] = Pv.mk 7 text bits cls name desc ↔ (bits = 0 ∧ cls = [] ∧ name = [] ∧ desc = []) := by
    simp only [Pv.mk.injEq, true_and]
    constructor <;> (intro h; simp_all)
  by_cases hz : bits = 0 ∧ cls = [] ∧ name = [] ∧ desc = []
  · have he : ∀ x, (Op.equalIn 10000 36 (.agg #[.int .i64 7, .string (bs text), .int .u64 0, .string ⟨#[]⟩, .string ⟨#[]⟩, .string ⟨#[]⟩]) (.agg #[.int .i64 7, .string (bs text), .int .u64 bits, .string (bs cls), .string (bs name), .string (bs desc)])).run Tryz.prog x = .ok true x := fun x => (eq_val (Pv.mk 7 text 0 [] [] []) (Pv.mk 7 text bits cls name desc) x).trans (by rw [decide_eq_true (hiff.2 hz)])
    rw [if_pos hz]
    clear hz hiff
    go_enter Tryz.func36, Tryz.ntmps36
    go_wp2_with fail
    refine (form_any 7 _).mono ?_
    rintro e w1 ⟨rfl, rfl⟩
    simp only [show Pv.form 7 = 97 from by simp [Pv.form]]
    go_wp2
    go_ret
    exact ⟨rfl, k1.out⟩
  · have he : ∀ x, (Op.equalIn 10000 36 (.agg #[.int .i64 7, .string (bs text), .int .u64 0, .string ⟨#[]⟩, .string ⟨#[]⟩, .string ⟨#[]⟩]) (.agg #[.int .i64 7, .string (bs text), .int .u64 bits, .string (bs cls), .string (bs name), .string (bs desc)])).run Tryz.prog x = .ok false x := fun x => (eq_val (Pv.mk 7 text 0 [] [] []) (Pv.mk 7 text bits cls name desc) x).trans (by rw [decide_eq_false (fun h => hz (hiff.1 h))])
    rw [if_neg hz]
    clear hz hiff
    go_enter Tryz.func36, Tryz.ntmps36
    go_wp2_with fail
    refine (form_any 7 _).mono ?_
    rintro e w1 ⟨rfl, rfl⟩
    simp only [show Pv.form 7 = 97 from by simp [Pv.form]]
    go_wp2
    go_ret
    exact ⟨rfl, k1.out⟩
set_option maxHeartbeats 4000000 in
set_option maxRecDepth 100000 in
theorem rcheck_8 (text : List UInt8) (bits : Nat) (cls name desc : List UInt8) (w : World) :
    Calls Tryz.prog 36 #[.agg #[.int .i64 8, .string (bs text), .int .u64 bits, .string (bs cls), .string (bs name), .string (bs desc)]] w fun e w' => e = .returned (.int .i64 (if bits = 0 ∧ cls = [] ∧ name = [] ∧ desc = [] then 0 else 9)) ∧ Below w.heap.size w w' := by
  have k1 := Lib.hid (Below.alloc' ((Below.refl w.heap.size w).alloc (Nat.le_refl _) (.cells #[.int .i64 8, .string (bs text), .int .u64 bits, .string (bs cls), .string (bs name), .string (bs desc)] 36)) (Nat.le_refl _) (.cells #[.int .i64 8, .string (bs text), .int .u64 0, .string ⟨#[]⟩, .string ⟨#[]⟩, .string ⟨#[]⟩] 36))
  have hiff : Pv.mk 8 text 0 [] [] [] = Pv.mk 8 text bits cls name desc ↔ (bits = 0 ∧ cls = [] ∧ name = [] ∧ desc = []) := by
    simp only [Pv.mk.injEq, true_and]
    constructor <;> (intro h; simp_all)
  by_cases hz : bits = 0 ∧ cls = [] ∧ name = [] ∧ desc = []
  · have he : ∀ x, (Op.equalIn 10000 36 (.agg #[.int .i64 8, .string (bs text), .int .u64 0, .string ⟨#[]⟩, .string ⟨#[]⟩, .string ⟨#[]⟩]) (.agg #[.int .i64 8, .string (bs text), .int .u64 bits, .string (bs cls), .string (bs name), .string (bs desc)])).run Tryz.prog x = .ok true x := fun x => (eq_val (Pv.mk 8 text 0 [] [] []) (Pv.mk 8 text bits cls name desc) x).trans (by rw [decide_eq_true (hiff.2 hz)])
    rw [if_pos hz]
    clear hz hiff
    go_enter Tryz.func36, Tryz.ntmps36
    go_wp2_with fail
    refine (form_any 8 _).mono ?_
    rintro e w1 ⟨rfl, rfl⟩
    simp only [show Pv.form 8 = 97 from by simp [Pv.form]]
    go_wp2
    go_ret
    exact ⟨rfl, k1.out⟩
  · have he : ∀ x, (Op.equalIn 10000 36 (.agg #[.int .i64 8, .string (bs text), .int .u64 0, .string ⟨#[]⟩, .string ⟨#[]⟩, .string ⟨#[]⟩]) (.agg #[.int .i64 8, .string (bs text), .int .u64 bits, .string (bs cls), .string (bs name), .string (bs desc)])).run Tryz.prog x = .ok false x := fun x => (eq_val (Pv.mk 8 text 0 [] [] []) (Pv.mk 8 text bits cls name desc) x).trans (by rw [decide_eq_false (fun h => hz (hiff.1 h))])
    rw [if_neg hz]
    clear hz hiff
    go_enter Tryz.func36, Tryz.ntmps36
    go_wp2_with fail
    refine (form_any 8 _).mono ?_
    rintro e w1 ⟨rfl, rfl⟩
    simp only [show Pv.form 8 = 97 from by simp [Pv.form]]
    go_wp2
    go_ret
    exact ⟨rfl, k1.out⟩
set_option maxHeartbeats 4000000 in
set_option maxRecDepth 100000 in
theorem rcheck_3 (text : List UInt8) (bits : Nat) (cls name desc : List UInt8) (w : World) :
    Calls Tryz.prog 36 #[.agg #[.int .i64 3, .string (bs text), .int .u64 bits, .string (bs cls), .string (bs name), .string (bs desc)]] w fun e w' => e = .returned (.int .i64 (if text = [] ∧ cls = [] ∧ name = [] ∧ desc = [] then (if 4294967296 ≤ bits then 5 else 0) else 9)) ∧ Below w.heap.size w w' := by
  have k1 := Lib.hid (Below.alloc' ((Below.refl w.heap.size w).alloc (Nat.le_refl _) (.cells #[.int .i64 3, .string (bs text), .int .u64 bits, .string (bs cls), .string (bs name), .string (bs desc)] 36)) (Nat.le_refl _) (.cells #[.int .i64 3, .string ⟨#[]⟩, .int .u64 bits, .string ⟨#[]⟩, .string ⟨#[]⟩, .string ⟨#[]⟩] 36))
  have hiff : Pv.mk 3 [] bits [] [] [] = Pv.mk 3 text bits cls name desc ↔ (text = [] ∧ cls = [] ∧ name = [] ∧ desc = []) := by
    simp only [Pv.mk.injEq, true_and]
    constructor <;> (intro h; simp_all)
  by_cases hz : text = [] ∧ cls = [] ∧ name = [] ∧ desc = []
  · have he : ∀ x, (Op.equalIn 10000 36 (.agg #[.int .i64 3, .string ⟨#[]⟩, .int .u64 bits, .string ⟨#[]⟩, .string ⟨#[]⟩, .string ⟨#[]⟩]) (.agg #[.int .i64 3, .string (bs text), .int .u64 bits, .string (bs cls), .string (bs name), .string (bs desc)])).run Tryz.prog x = .ok true x := fun x => (eq_val (Pv.mk 3 [] bits [] [] []) (Pv.mk 3 text bits cls name desc) x).trans (by rw [decide_eq_true (hiff.2 hz)])
    rw [if_pos hz]
    clear hz hiff
    by_cases hr : 4294967296 ≤ bits
    · have hs : decide ((4294967296 : Int) ≤ (bits : Int)) = true := decide_eq_true (by omega)
      rw [if_pos hr]
      clear hr
      go_enter Tryz.func36, Tryz.ntmps36
      go_wp2_with fail
      refine (form_any 3 _).mono ?_
      rintro e w1 ⟨rfl, rfl⟩
      simp only [show Pv.form 3 = 52 from by simp [Pv.form]]
      go_wp2
      go_ret
      exact ⟨rfl, k1.out⟩
    · have hs : decide ((4294967296 : Int) ≤ (bits : Int)) = false := decide_eq_false (by omega)
      rw [if_neg hr]
      clear hr
      go_enter Tryz.func36, Tryz.ntmps36
      go_wp2_with fail
      refine (form_any 3 _).mono ?_
      rintro e w1 ⟨rfl, rfl⟩
      simp only [show Pv.form 3 = 52 from by simp [Pv.form]]
      go_wp2
      go_ret
      exact ⟨rfl, k1.out⟩
  · have he : ∀ x, (Op.equalIn 10000 36 (.agg #[.int .i64 3, .string ⟨#[]⟩, .int .u64 bits, .string ⟨#[]⟩, .string ⟨#[]⟩, .string ⟨#[]⟩]) (.agg #[.int .i64 3, .string (bs text), .int .u64 bits, .string (bs cls), .string (bs name), .string (bs desc)])).run Tryz.prog x = .ok false x := fun x => (eq_val (Pv.mk 3 [] bits [] [] []) (Pv.mk 3 text bits cls name desc) x).trans (by rw [decide_eq_false (fun h => hz (hiff.1 h))])
    rw [if_neg hz]
    clear hz hiff
    go_enter Tryz.func36, Tryz.ntmps36
    go_wp2_with fail
    refine (form_any 3 _).mono ?_
    rintro e w1 ⟨rfl, rfl⟩
    simp only [show Pv.form 3 = 52 from by simp [Pv.form]]
    go_wp2
    go_ret
    exact ⟨rfl, k1.out⟩
set_option maxHeartbeats 4000000 in
set_option maxRecDepth 100000 in
theorem rcheck_4 (text : List UInt8) (bits : Nat) (cls name desc : List UInt8) (w : World) :
    Calls Tryz.prog 36 #[.agg #[.int .i64 4, .string (bs text), .int .u64 bits, .string (bs cls), .string (bs name), .string (bs desc)]] w fun e w' => e = .returned (.int .i64 (if text = [] ∧ cls = [] ∧ name = [] ∧ desc = [] then (if 4294967296 ≤ bits then 5 else 0) else 9)) ∧ Below w.heap.size w w' := by
  have k1 := Lib.hid (Below.alloc' ((Below.refl w.heap.size w).alloc (Nat.le_refl _) (.cells #[.int .i64 4, .string (bs text), .int .u64 bits, .string (bs cls), .string (bs name), .string (bs desc)] 36)) (Nat.le_refl _) (.cells #[.int .i64 4, .string ⟨#[]⟩, .int .u64 bits, .string ⟨#[]⟩, .string ⟨#[]⟩, .string ⟨#[]⟩] 36))
  have hiff : Pv.mk 4 [] bits [] [] [] = Pv.mk 4 text bits cls name desc ↔ (text = [] ∧ cls = [] ∧ name = [] ∧ desc = []) := by
    simp only [Pv.mk.injEq, true_and]
    constructor <;> (intro h; simp_all)
  by_cases hz : text = [] ∧ cls = [] ∧ name = [] ∧ desc = []
  · have he : ∀ x, (Op.equalIn 10000 36 (.agg #[.int .i64 4, .string ⟨#[]⟩, .int .u64 bits, .string ⟨#[]⟩, .string ⟨#[]⟩, .string ⟨#[]⟩]) (.agg #[.int .i64 4, .string (bs text), .int .u64 bits, .string (bs cls), .string (bs name), .string (bs desc)])).run Tryz.prog x = .ok true x := fun x => (eq_val (Pv.mk 4 [] bits [] [] []) (Pv.mk 4 text bits cls name desc) x).trans (by rw [decide_eq_true (hiff.2 hz)])
    rw [if_pos hz]
    clear hz hiff
    by_cases hr : 4294967296 ≤ bits
    · have hs : decide ((4294967296 : Int) ≤ (bits : Int)) = true := decide_eq_true (by omega)
      rw [if_pos hr]
      clear hr
      go_enter Tryz.func36, Tryz.ntmps36
      go_wp2_with fail
      refine (form_any 4 _).mono ?_
      rintro e w1 ⟨rfl, rfl⟩
      simp only [show Pv.form 4 = 52 from by simp [Pv.form]]
      go_wp2
      go_ret
      exact ⟨rfl, k1.out⟩
    · have hs : decide ((4294967296 : Int) ≤ (bits : Int)) = false := decide_eq_false (by omega)
      rw [if_neg hr]
      clear hr
      go_enter Tryz.func36, Tryz.ntmps36
      go_wp2_with fail
      refine (form_any 4 _).mono ?_
      rintro e w1 ⟨rfl, rfl⟩
      simp only [show Pv.form 4 = 52 from by simp [Pv.form]]
      go_wp2
      go_ret
      exact ⟨rfl, k1.out⟩
  · have he : ∀ x, (Op.equalIn 10000 36 (.agg #[.int .i64 4, .string ⟨#[]⟩, .int .u64 bits, .string ⟨#[]⟩, .string ⟨#[]⟩, .string ⟨#[]⟩]) (.agg #[.int .i64 4, .string (bs text), .int .u64 bits, .string (bs cls), .string (bs name), .string (bs desc)])).run Tryz.prog x = .ok false x := fun x => (eq_val (Pv.mk 4 [] bits [] [] []) (Pv.mk 4 text bits cls name desc) x).trans (by rw [decide_eq_false (fun h => hz (hiff.1 h))])
    rw [if_neg hz]
    clear hz hiff
    go_enter Tryz.func36, Tryz.ntmps36
    go_wp2_with fail
    refine (form_any 4 _).mono ?_
    rintro e w1 ⟨rfl, rfl⟩
    simp only [show Pv.form 4 = 52 from by simp [Pv.form]]
    go_wp2
    go_ret
    exact ⟨rfl, k1.out⟩
set_option maxHeartbeats 4000000 in
set_option maxRecDepth 100000 in
theorem rcheck_5 (text : List UInt8) (bits : Nat) (cls name desc : List UInt8) (w : World) :
    Calls Tryz.prog 36 #[.agg #[.int .i64 5, .string (bs text), .int .u64 bits, .string (bs cls), .string (bs name), .string (bs desc)]] w fun e w' => e = .returned (.int .i64 (if text = [] ∧ cls = [] ∧ name = [] ∧ desc = [] then 0 else 9)) ∧ Below w.heap.size w w' := by
  have k1 := Lib.hid (Below.alloc' ((Below.refl w.heap.size w).alloc (Nat.le_refl _) (.cells #[.int .i64 5, .string (bs text), .int .u64 bits, .string (bs cls), .string (bs name), .string (bs desc)] 36)) (Nat.le_refl _) (.cells #[.int .i64 5, .string ⟨#[]⟩, .int .u64 bits, .string ⟨#[]⟩, .string ⟨#[]⟩, .string ⟨#[]⟩] 36))
  have hiff : Pv.mk 5 [] bits [] [] [] = Pv.mk 5 text bits cls name desc ↔ (text = [] ∧ cls = [] ∧ name = [] ∧ desc = []) := by
    simp only [Pv.mk.injEq, true_and]
    constructor <;> (intro h; simp_all)
  by_cases hz : text = [] ∧ cls = [] ∧ name = [] ∧ desc = []
  · have he : ∀ x, (Op.equalIn 10000 36 (.agg #[.int .i64 5, .string ⟨#[]⟩, .int .u64 bits, .string ⟨#[]⟩, .string ⟨#[]⟩, .string ⟨#[]⟩]) (.agg #[.int .i64 5, .string (bs text), .int .u64 bits, .string (bs cls), .string (bs name), .string (bs desc)])).run Tryz.prog x = .ok true x := fun x => (eq_val (Pv.mk 5 [] bits [] [] []) (Pv.mk 5 text bits cls name desc) x).trans (by rw [decide_eq_true (hiff.2 hz)])
    rw [if_pos hz]
    clear hz hiff
    go_enter Tryz.func36, Tryz.ntmps36
    go_wp2_with fail
    refine (form_any 5 _).mono ?_
    rintro e w1 ⟨rfl, rfl⟩
    simp only [show Pv.form 5 = 56 from by simp [Pv.form]]
    go_wp2
    go_ret
    exact ⟨rfl, k1.out⟩
  · have he : ∀ x, (Op.equalIn 10000 36 (.agg #[.int .i64 5, .string ⟨#[]⟩, .int .u64 bits, .string ⟨#[]⟩, .string ⟨#[]⟩, .string ⟨#[]⟩]) (.agg #[.int .i64 5, .string (bs text), .int .u64 bits, .string (bs cls), .string (bs name), .string (bs desc)])).run Tryz.prog x = .ok false x := fun x => (eq_val (Pv.mk 5 [] bits [] [] []) (Pv.mk 5 text bits cls name desc) x).trans (by rw [decide_eq_false (fun h => hz (hiff.1 h))])
    rw [if_neg hz]
    clear hz hiff
    go_enter Tryz.func36, Tryz.ntmps36
    go_wp2_with fail
    refine (form_any 5 _).mono ?_
    rintro e w1 ⟨rfl, rfl⟩
    simp only [show Pv.form 5 = 56 from by simp [Pv.form]]
    go_wp2
    go_ret
    exact ⟨rfl, k1.out⟩
set_option maxHeartbeats 4000000 in
set_option maxRecDepth 100000 in
theorem rcheck_6 (text : List UInt8) (bits : Nat) (cls name desc : List UInt8) (w : World) :
    Calls Tryz.prog 36 #[.agg #[.int .i64 6, .string (bs text), .int .u64 bits, .string (bs cls), .string (bs name), .string (bs desc)]] w fun e w' => e = .returned (.int .i64 (if text = [] ∧ cls = [] ∧ name = [] ∧ desc = [] then 0 else 9)) ∧ Below w.heap.size w w' := by
  have k1 := Lib.hid (Below.alloc' ((Below.refl w.heap.size w).alloc (Nat.le_refl _) (.cells #[.int .i64 6, .string (bs text), .int .u64 bits, .string (bs cls), .string (bs name), .string (bs desc)] 36)) (Nat.le_refl _) (.cells #[.int .i64 6, .string ⟨#[]⟩, .int .u64 bits, .string ⟨#[]⟩, .string ⟨#[]⟩, .string ⟨#[]⟩] 36))
  have hiff : Pv.mk 6 [] bits [] [] [] = Pv.mk 6 text bits cls name desc ↔ (text = [] ∧ cls = [] ∧ name = [] ∧ desc = []) := by
    simp only [Pv.mk.injEq, true_and]
    constructor <;> (intro h; simp_all)
  by_cases hz : text = [] ∧ cls = [] ∧ name = [] ∧ desc = []
  · have he : ∀ x, (Op.equalIn 10000 36 (.agg #[.int .i64 6, .string ⟨#[]⟩, .int .u64 bits, .string ⟨#[]⟩, .string ⟨#[]⟩, .string ⟨#[]⟩]) (.agg #[.int .i64 6, .string (bs text), .int .u64 bits, .string (bs cls), .string (bs name), .string (bs desc)])).run Tryz.prog x = .ok true x := fun x => (eq_val (Pv.mk 6 [] bits [] [] []) (Pv.mk 6 text bits cls name desc) x).trans (by rw [decide_eq_true (hiff.2 hz)])
    rw [if_pos hz]
    clear hz hiff
    go_enter Tryz.func36, Tryz.ntmps36
    go_wp2_with fail
    refine (form_any 6 _).mono ?_
    rintro e w1 ⟨rfl, rfl⟩
    simp only [show Pv.form 6 = 56 from by simp [Pv.form]]
    go_wp2
    go_ret
    exact ⟨rfl, k1.out⟩
  · have he : ∀ x, (Op.equalIn 10000 36 (.agg #[.int .i64 6, .string ⟨#[]⟩, .int .u64 bits, .string ⟨#[]⟩, .string ⟨#[]⟩, .string ⟨#[]⟩]) (.agg #[.int .i64 6, .string (bs text), .int .u64 bits, .string (bs cls), .string (bs name), .string (bs desc)])).run Tryz.prog x = .ok false x := fun x => (eq_val (Pv.mk 6 [] bits [] [] []) (Pv.mk 6 text bits cls name desc) x).trans (by rw [decide_eq_false (fun h => hz (hiff.1 h))])
    rw [if_neg hz]
    clear hz hiff
    go_enter Tryz.func36, Tryz.ntmps36
    go_wp2_with fail
    refine (form_any 6 _).mono ?_
    rintro e w1 ⟨rfl, rfl⟩
    simp only [show Pv.form 6 = 56 from by simp [Pv.form]]
    go_wp2
    go_ret
    exact ⟨rfl, k1.out⟩
set_option maxHeartbeats 4000000 in
set_option maxRecDepth 100000 in
theorem rcheck_12 (text : List UInt8) (bits : Nat) (cls name desc : List UInt8) (w : World) :
    Calls Tryz.prog 36 #[.agg #[.int .i64 12, .string (bs text), .int .u64 bits, .string (bs cls), .string (bs name), .string (bs desc)]] w fun e w' => e = .returned (.int .i64 (if text = [] ∧ bits = 0 ∧ cls = [] then 0 else 9)) ∧ Below w.heap.size w w' := by
  have k1 := Lib.hid (Below.alloc' ((Below.refl w.heap.size w).alloc (Nat.le_refl _) (.cells #[.int .i64 12, .string (bs text), .int .u64 bits, .string (bs cls), .string (bs name), .string (bs desc)] 36)) (Nat.le_refl _) (.cells #[.int .i64 12, .string ⟨#[]⟩, .int .u64 0, .string ⟨#[]⟩, .string (bs name), .string (bs desc)] 36))
  have hiff : Pv.mk 12 [] 0 [] name desc = Pv.mk 12 text bits cls name desc ↔ (text = [] ∧ bits = 0 ∧ cls = []) := by
    simp only [Pv.mk.injEq, true_and, and_true]
    constructor <;> (intro h; simp_all)
  by_cases hz : text = [] ∧ bits = 0 ∧ cls = []
  · have he : ∀ x, (Op.equalIn 10000 36 (.agg #[.int .i64 12, .string ⟨#[]⟩, .int .u64 0, .string ⟨#[]⟩, .string (bs name), .string (bs desc)]) (.agg #[.int .i64 12, .string (bs text), .int .u64 bits, .string (bs cls), .string (bs name), .string (bs desc)])).run Tryz.prog x = .ok true x := fun x => (eq_val (Pv.mk 12 [] 0 [] name desc) (Pv.mk 12 text bits cls name desc) x).trans (by rw [decide_eq_true (hiff.2 hz)])
    rw [if_pos hz]
    clear hz hiff
    go_enter Tryz.func36, Tryz.ntmps36
    go_wp2_with fail
    refine (form_any 12 _).mono ?_
    rintro e w1 ⟨rfl, rfl⟩
    simp only [show Pv.form 12 = 98 from by simp [Pv.form]]
    go_wp2_with fail
    go_region
    go_wp2
    go_ret
    exact ⟨rfl, k1.out.drew⟩
  · have he : ∀ x, (Op.equalIn 10000 36 (.agg #[.int .i64 12, .string ⟨#[]⟩, .int .u64 0, .string ⟨#[]⟩, .string (bs name), .string (bs desc)]) (.agg #[.int .i64 12, .string (bs text), .int .u64 bits, .string (bs cls), .string (bs name), .string (bs desc)])).run Tryz.prog x = .ok false x := fun x => (eq_val (Pv.mk 12 [] 0 [] name desc) (Pv.mk 12 text bits cls name desc) x).trans (by rw [decide_eq_false (fun h => hz (hiff.1 h))])
    rw [if_neg hz]
    clear hz hiff
    go_enter Tryz.func36, Tryz.ntmps36
    go_wp2_with fail
    refine (form_any 12 _).mono ?_
    rintro e w1 ⟨rfl, rfl⟩
    simp only [show Pv.form 12 = 98 from by simp [Pv.form]]
    go_wp2_with fail
    go_region
    go_wp2
    go_ret
    exact ⟨rfl, k1.out.drew⟩
set_option maxHeartbeats 4000000 in
set_option maxRecDepth 100000 in
theorem rcheck_9 (text : List UInt8) (bits : Nat) (cls name desc : List UInt8) (w : World) :
    Calls Tryz.prog 36 #[.agg #[.int .i64 9, .string (bs text), .int .u64 bits, .string (bs cls), .string (bs name), .string (bs desc)]] w fun e w' => e = .returned (.int .i64 (if text = [] ∧ bits = 0 then 0 else 9)) ∧ Below w.heap.size w w' := by
  have k1 := Lib.hid (Below.alloc' ((Below.refl w.heap.size w).alloc (Nat.le_refl _) (.cells #[.int .i64 9, .string (bs text), .int .u64 bits, .string (bs cls), .string (bs name), .string (bs desc)] 36)) (Nat.le_refl _) (.cells #[.int .i64 9, .string ⟨#[]⟩, .int .u64 0, .string (bs cls), .string (bs name), .string (bs desc)] 36))
  have hiff : Pv.mk 9 [] 0 cls name desc = Pv.mk 9 text bits cls name desc ↔ (text = [] ∧ bits = 0) := by
    simp only [Pv.mk.injEq, true_and, and_true]
    constructor <;> (intro h; simp_all)
  by_cases hz : text = [] ∧ bits = 0
  · have he : ∀ x, (Op.equalIn 10000 36 (.agg #[.int .i64 9, .string ⟨#[]⟩, .int .u64 0, .string (bs cls), .string (bs name), .string (bs desc)]) (.agg #[.int .i64 9, .string (bs text), .int .u64 bits, .string (bs cls), .string (bs name), .string (bs desc)])).run Tryz.prog x = .ok true x := fun x => (eq_val (Pv.mk 9 [] 0 cls name desc) (Pv.mk 9 text bits cls name desc) x).trans (by rw [decide_eq_true (hiff.2 hz)])
    rw [if_pos hz]
    clear hz hiff
    go_enter Tryz.func36, Tryz.ntmps36
    go_wp2_with fail
    refine (form_any 9 _).mono ?_
    rintro e w1 ⟨rfl, rfl⟩
    simp only [show Pv.form 9 = 98 from by simp [Pv.form]]
    go_wp2_with fail
    go_region
    go_wp2
    go_ret
    exact ⟨rfl, k1.out.drew⟩
  · have he : ∀ x, (Op.equalIn 10000 36 (.agg #[.int .i64 9, .string ⟨#[]⟩, .int .u64 0, .string (bs cls), .string (bs name), .string (bs desc)]) (.agg #[.int .i64 9, .string (bs text), .int .u64 bits, .string (bs cls), .string (bs name), .string (bs desc)])).run Tryz.prog x = .ok false x := fun x => (eq_val (Pv.mk 9 [] 0 cls name desc) (Pv.mk 9 text bits cls name desc) x).trans (by rw [decide_eq_false (fun h => hz (hiff.1 h))])
    rw [if_neg hz]
    clear hz hiff
    go_enter Tryz.func36, Tryz.ntmps36
    go_wp2_with fail
    refine (form_any 9 _).mono ?_
    rintro e w1 ⟨rfl, rfl⟩
    simp only [show Pv.form 9 = 98 from by simp [Pv.form]]
    go_wp2_with fail
    go_region
    go_wp2
    go_ret
    exact ⟨rfl, k1.out.drew⟩
set_option maxHeartbeats 4000000 in
set_option maxRecDepth 100000 in
theorem rcheck_10 (text : List UInt8) (bits : Nat) (cls name desc : List UInt8) (w : World) :
    Calls Tryz.prog 36 #[.agg #[.int .i64 10, .string (bs text), .int .u64 bits, .string (bs cls), .string (bs name), .string (bs desc)]] w fun e w' => e = .returned (.int .i64 (if text = [] ∧ bits = 0 then 0 else 9)) ∧ Below w.heap.size w w' := by
  have k1 := Lib.hid (Below.alloc' ((Below.refl w.heap.size w).alloc (Nat.le_refl _) (.cells #[.int .i64 10, .string (bs text), .int .u64 bits, .string (bs cls), .string (bs name), .string (bs desc)] 36)) (Nat.le_refl _) (.cells #[.int .i64 10, .string ⟨#[]⟩, .int .u64 0, .string (bs cls), .string (bs name), .string (bs desc)] 36))
  have hiff : Pv.mk 10 [] 0 cls name desc = Pv.mk 10 text bits cls name desc ↔ (text = [] ∧ bits = 0) := by
    simp only [Pv.mk.injEq, true_and, and_true]
    constructor <;> (intro h; simp_all)
  by_cases hz : text = [] ∧ bits = 0
  · have he : ∀ x, (Op.equalIn 10000 36 (.agg #[.int .i64 10, .string ⟨#[]⟩, .int .u64 0, .string (bs cls), .string (bs name), .string (bs desc)]) (.agg #[.int .i64 10, .string (bs text), .int .u64 bits, .string (bs cls), .string (bs name), .string (bs desc)])).run Tryz.prog x = .ok true x := fun x => (eq_val (Pv.mk 10 [] 0 cls name desc) (Pv.mk 10 text bits cls name desc) x).trans (by rw [decide_eq_true (hiff.2 hz)])
    rw [if_pos hz]
    clear hz hiff
    go_enter Tryz.func36, Tryz.ntmps36
    go_wp2_with fail
    refine (form_any 10 _).mono ?_
    rintro e w1 ⟨rfl, rfl⟩
    simp only [show Pv.form 10 = 98 from by simp [Pv.form]]
    go_wp2_with fail
    go_region
    go_wp2
    go_ret
    exact ⟨rfl, k1.out.drew⟩
  · have he : ∀ x, (Op.equalIn 10000 36 (.agg #[.int .i64 10, .string ⟨#[]⟩, .int .u64 0, .string (bs cls), .string (bs name), .string (bs desc)]) (.agg #[.int .i64 10, .string (bs text), .int .u64 bits, .string (bs cls), .string (bs name), .string (bs desc)])).run Tryz.prog x = .ok false x := fun x => (eq_val (Pv.mk 10 [] 0 cls name desc) (Pv.mk 10 text bits cls name desc) x).trans (by rw [decide_eq_false (fun h => hz (hiff.1 h))])
    rw [if_neg hz]
    clear hz hiff
    go_enter Tryz.func36, Tryz.ntmps36
    go_wp2_with fail
    refine (form_any 10 _).mono ?_
    rintro e w1 ⟨rfl, rfl⟩
    simp only [show Pv.form 10 = 98 from by simp [Pv.form]]
    go_wp2_with fail
    go_region
    go_wp2
    go_ret
    exact ⟨rfl, k1.out.drew⟩
set_option maxHeartbeats 4000000 in
set_option maxRecDepth 100000 in
theorem rcheck_11 (text : List UInt8) (bits : Nat) (cls name desc : List UInt8) (w : World) :
    Calls Tryz.prog 36 #[.agg #[.int .i64 11, .string (bs text), .int .u64 bits, .string (bs cls), .string (bs name), .string (bs desc)]] w fun e w' => e = .returned (.int .i64 (if text = [] ∧ bits = 0 then 0 else 9)) ∧ Below w.heap.size w w' := by
  have k1 := Lib.hid (Below.alloc' ((Below.refl w.heap.size w).alloc (Nat.le_refl _) (.cells #[.int .i64 11, .string (bs text), .int .u64 bits, .string (bs cls), .string (bs name), .string (bs desc)] 36)) (Nat.le_refl _) (.cells #[.int .i64 11, .string ⟨#[]⟩, .int .u64 0, .string (bs cls), .string (bs name), .string (bs desc)] 36))
  have hiff : Pv.mk 11 [] 0 cls name desc = Pv.mk 11 text bits cls name desc ↔ (text = [] ∧ bits = 0) := by
    simp only [Pv.mk.injEq, true_and, and_true]
    constructor <;> (intro h; simp_all)
  by_cases hz : text = [] ∧ bits = 0
  · have he : ∀ x, (Op.equalIn 10000 36 (.agg #[.int .i64 11, .string ⟨#[]⟩, .int .u64 0, .string (bs cls), .string (bs name), .string (bs desc)]) (.agg #[.int .i64 11, .string (bs text), .int .u64 bits, .string (bs cls), .string (bs name), .string (bs desc)])).run Tryz.prog x = .ok true x := fun x => (eq_val (Pv.mk 11 [] 0 cls name desc) (Pv.mk 11 text bits cls name desc) x).trans (by rw [decide_eq_true (hiff.2 hz)])
    rw [if_pos hz]
    clear hz hiff
    go_enter Tryz.func36, Tryz.ntmps36
    go_wp2_with fail
    refine (form_any 11 _).mono ?_
    rintro e w1 ⟨rfl, rfl⟩
    simp only [show Pv.form 11 = 98 from by simp [Pv.form]]
    go_wp2_with fail
    go_region
    go_wp2
    go_ret
    exact ⟨rfl, k1.out.drew⟩
  · have he : ∀ x, (Op.equalIn 10000 36 (.agg #[.int .i64 11, .string ⟨#[]⟩, .int .u64 0, .string (bs cls), .string (bs name), .string (bs desc)]) (.agg #[.int .i64 11, .string (bs text), .int .u64 bits, .string (bs cls), .string (bs name), .string (bs desc)])).run Tryz.prog x = .ok false x := fun x => (eq_val (Pv.mk 11 [] 0 cls name desc) (Pv.mk 11 text bits cls name desc) x).trans (by rw [decide_eq_false (fun h => hz (hiff.1 h))])
    rw [if_neg hz]
    clear hz hiff
    go_enter Tryz.func36, Tryz.ntmps36
    go_wp2_with fail
    refine (form_any 11 _).mono ?_
    rintro e w1 ⟨rfl, rfl⟩
    simp only [show Pv.form 11 = 98 from by simp [Pv.form]]
    go_wp2_with fail
    go_region
    go_wp2
    go_ret
    exact ⟨rfl, k1.out.drew⟩
theorem rcheck_no (tag : Int) (text : List UInt8) (bits : Nat) (cls name desc : List UInt8) (w : World) (n1 : ¬ (tag = 1 ∨ tag = 7 ∨ tag = 8)) (n2 : ¬ (tag = 3 ∨ tag = 4 ∨ tag = 5 ∨ tag = 6)) (n3 : ¬ tag = 12) (n4 : ¬ (tag = 9 ∨ tag = 10 ∨ tag = 11)) :
    Calls Tryz.prog 36 #[.agg #[.int .i64 tag, .string (bs text), .int .u64 bits, .string (bs cls), .string (bs name), .string (bs desc)]] w fun e w' => e = .returned (.int .i64 9) ∧ Below w.heap.size w w' := by
  have k1 := Lib.hid ((Below.refl w.heap.size w).alloc (Nat.le_refl _) (.cells #[.int .i64 tag, .string (bs text), .int .u64 bits, .string (bs cls), .string (bs name), .string (bs desc)] 36))
  have hf : Pv.form tag = 0 := by unfold Pv.form; rw [if_neg (by omega), if_neg (by omega), if_neg (by omega), if_neg (by omega), if_neg (by omega)]
  clear n1 n2 n3 n4
  go_enter Tryz.func36, Tryz.ntmps36
  go_wp2_with fail
  refine (form_any tag _).mono ?_
  rintro e w1 ⟨rfl, rfl⟩
  simp only [hf]
  go_wp2
  go_ret
  exact ⟨rfl, k1.out⟩
theorem rcheck_any (v : Pv) (w : World) : Calls Tryz.prog 36 #[vv v] w fun e w' => e = .returned (.int .i64 (v.chk 0 9 5)) ∧ Below w.heap.size w w' := by
  obtain ⟨tag, text, bits, cls, name, desc⟩ := v
  unfold Pv.chk
  dsimp only
  split
  · rename_i h
    rcases h with rfl | rfl | rfl
    · exact rcheck_1 text bits cls name desc w
    · exact rcheck_7 text bits cls name desc w
    · exact rcheck_8 text bits cls name desc w
  · rename_i n1
    split
    · rename_i h
      rcases h with rfl | rfl | rfl | rfl
      · have := rcheck_3 text bits cls name desc w
        simp only [Int.reduceEq, or_false, true_and]
        exact this
      · have := rcheck_4 text bits cls name desc w
        simp only [Int.reduceEq, or_true, true_and]
        exact this
      · have := rcheck_5 text bits cls name desc w
        simp only [Int.reduceEq, false_and, if_false, or_self]
        exact this
      · have := rcheck_6 text bits cls name desc w
        simp only [Int.reduceEq, false_and, if_false, or_self]
        exact this
    · rename_i n2
      split
      · rename_i h; subst h; exact rcheck_12 text bits cls name desc w
      · rename_i n3
        split
        · rename_i h
          rcases h with rfl | rfl | rfl
          · exact rcheck_9 text bits cls name desc w
          · exact rcheck_10 text bits cls name desc w
          · exact rcheck_11 text bits cls name desc w
        · rename_i n4; exact rcheck_no tag text bits cls name desc w n1 n2 n3 n4
end Go.Proofs.YtkdamaomhppkgaaGreat
