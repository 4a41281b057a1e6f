/- Joined texts: BdB, BdC, BdD, Wd, BdE. -/
import Derived.Test.YtbdkoagagcemcaaPk6
import Derived.Test.YtbdkoagagcemcaaPk4
/- The walks of layer 26: how many tokens are nought; the next row of three. -/
namespace Go.Proofs.Ytbdkoagagcemcaa
open Go.RowKit

set_option maxRecDepth 100000 in
theorem bcount_any (A : Option Addr) (c : Nat) (xs : List Int) (w : World) (hx : Ints w A c xs) (hn : xs.length ≤ 1000000) :
    Calls Try.prog 56 #[.slice A xs.length c] w fun e w' => e = .returned (.int .i64 (xs.count 0 : Nat)) ∧ w' = w := by
  have HX := Lib.hid hx
  clear hx
  go_enter Try.func56, Try.ntmps56
  go_wp2_with fail
  go_loop [3, 8] (fun s u => ∃ i : Nat, i ≤ xs.length ∧ u = .int .i64 i ∧ s = .int .i64 ((xs.take i).count 0 : Nat)) (fun _ u => xs.length - (intOf u).toNat)
  case atStart => exact ⟨0, Nat.zero_le _, rfl, rfl⟩
  case round =>
    obtain ⟨i, hi, rfl, rfl⟩ := hrel
    by_cases h1 : i < xs.length
    · obtain ⟨g, o, v, rfl, hg, hvi, hct⟩ := HX.out.at_ h1
      have hcl : (xs.take i).count 0 ≤ i := Nat.le_trans List.count_le_length (by rw [List.length_take]; omega)
      have hst := Lib.hid (show (xs.take (i + 1)).count 0 = (xs.take i).count 0 + if v = 0 then 1 else 0 by
        rw [List.take_succ_eq_append_getElem h1, List.count_append]
        have e : xs[i] = v := (List.getElem?_eq_some_iff.1 hvi).2
        rw [e]
        by_cases hv : v = 0
        · subst hv; simp
        · simp [hv])
      clear hvi
      generalize hc : (xs.take i).count 0 = m at *
      have HC := Lib.hid hc
      clear hc
      by_cases hv : v = 0
      · have q : (v == 0) = true := by simpa using hv
        have hst2 := Lib.hid (hst.out.trans (by rw [if_pos hv]))
        clear hst hv
        go_wp2_with fail
        go_round
        case rel => exact ⟨i + 1, by omega, by go_num, by rw [hst2.out]; go_num⟩
        case measure => simp [intOf]; omega
      · have q : (v == 0) = false := by simpa using hv
        have hst2 := Lib.hid (hst.out.trans (by rw [if_neg hv, Nat.add_zero]))
        clear hst hv
        go_wp2_with fail
        go_round
        case rel => exact ⟨i + 1, by omega, by go_num, by rw [hst2.out]⟩
        case measure => simp [intOf]; omega
    · have hii : i = xs.length := by omega
      subst hii
      rw [List.take_length]
      go_wp2_with fail
      go_ret
      exact ⟨rfl, rfl⟩
/-- A variable with the cursor. -/
def PcBox (w : World) (B b : Nat) : Prop := w.heap[B]? = some (.cells #[.pointer (some ⟨b, 0, none⟩)] 29 (0, 0))
theorem PcBox.lt {w : World} {B b : Nat} (h : PcBox w B b) : B < w.heap.size := (Array.getElem?_eq_some_iff.1 h).1
theorem PcBox.grow {w w1 : World} {B b : Nat} (h : PcBox w B b) (k : Below w.heap.size w w1) : PcBox w1 B b := (k.block B h.lt).trans h
theorem PcBox.kept {w w1 : World} {B b : Nat} {o : Option Nat} (h : PcBox w B b) (k : w.grownBy w1 o) (hne : some B ≠ o) : PcBox w1 B b := (k.block B h.lt hne).trans h
theorem PcBox.ne {w : World} {B b : Nat} {A : Option Addr} {cc : Nat} {l : List UInt8} {n : Nat} {e : Int} (h : PcBox w B b) (k : CurS w b A cc l n e) : some B ≠ some b := by
  intro e
  injection e with e
  subst e
  have h1 := h
  have h2 := k.box
  unfold PcBox at h1
  rw [h1] at h2
  injection h2 with h2
  injection h2 with _ h3 _
  exact absurd h3 (by decide)
/-- What is read next, whether there is an error ahead or not. -/
def NextRes (b : Nat) (A : Option Addr) (cc : Nat) (l : List UInt8) (n : Nat) (e : Int) (o : Except Int (List Int × List UInt8)) (x : World) (ex : Ending) (y : World) : Prop :=
  ∃ (u : Value) (vs : List Int) (m : Nat) (e' : Int), ex = .returned u ∧ IRow y x.heap.size u vs ∧ CurS y b A cc l m e' ∧ (e = 0 → Outc o [] vs e' (l.drop m)) ∧ (e ≠ 0 → vs = [] ∧ e' = e) ∧ x.grownBy y (some b)
section
variable {x : World} {b : Nat} {A : Option Addr} {cc : Nat} {l : List UInt8} {n : Nat} {e : Int}
set_option maxHeartbeats 4000000 in
set_option maxRecDepth 100000 in
theorem next_any (B : Nat) (h : CurS x b A cc l n e) (hp : PcBox x B b) (k : Nat) (hk : k ≤ 9223372036854775807) :
    Calls Try.prog 55 #[.int .i64 k, .pointer (some ⟨B, 0, none⟩)] x (NextRes b A cc l n e (nextR k (l.drop n)) x) := by
  have H0 := Lib.hid h
  have HP := Lib.hid hp
  have hne := hp.ne h
  have hz := hp.lt
  have c0 : x.cell? ⟨B, 0, none⟩ = some (.pointer (some ⟨b, 0, none⟩)) := (blk_facts hp).1 0
  have hnl := h.le
  by_cases he : e = 0
  · subst he
    by_cases hend : n < l.length
    · obtain ⟨a, ha⟩ : ∃ a, l[n]? = some a := ⟨_, List.getElem?_eq_getElem hend⟩
      have HB := Lib.hid (cbig_ok h ha)
      have hab := a.toNat_lt
      have hfin := Lib.hid (show nextR k (l.drop n) = plainR a.toNat k (l.drop (n + 1)) by rw [drop_atI ha]; rfl)
      clear h hp ha
      go_enter Try.func55, Try.ntmps55
      go_wp2_with fail
      refine HB.out.mono ?_
      rintro ex z ⟨rfl, hc1, hg1⟩
      have hp1 := HP.out.kept hg1 hne
      have c1 : z.cell? ⟨B, 0, none⟩ = some (.pointer (some ⟨b, 0, none⟩)) := (blk_facts hp1).1 0
      have hz1 := hp1.lt
      have HE := Lib.hid (cerr_any hc1)
      have HPl := Lib.hid (bplain_any hc1 a.toNat k (by omega) hk)
      have HG1 := Lib.hid hg1
      clear hc1 hg1 hp1 c0 hz HB
      go_wp2_with fail
      refine HE.out.mono ?_
      rintro ex z2 ⟨rfl, ez⟩
      have ez := ez.symm
      subst ez
      go_wp2_with fail
      refine HPl.out.mono ?_
      rintro ex z2 ⟨u, vs, m, e', rfl, hr, hc2, ho, hg2⟩
      have HR := Lib.hid (hr.base HG1.out.size)
      have HC := Lib.hid hc2
      have HO := Lib.hid ho
      have HG := Lib.hid (grownBy_trans HG1.out hg2 (.inl rfl))
      clear hr hc2 ho hg2 HPl HE
      go_wp2_with fail
      go_ret
      exact ⟨u, vs, m, e', rfl, HR.out, HC.out, fun _ => by rw [hfin.out]; exact HO.out, fun h => absurd rfl h, HG.out⟩
    · have HB := Lib.hid (cbig_end h (by omega))
      have hfin := Lib.hid (show nextR k (l.drop n) = .error 6 by rw [List.drop_of_length_le (by omega)]; rfl)
      clear h hp
      go_enter Try.func55, Try.ntmps55
      go_wp2_with fail
      refine HB.out.mono ?_
      rintro ex z ⟨rfl, hc1, hg1⟩
      have hp1 := HP.out.kept hg1 hne
      have c1 : z.cell? ⟨B, 0, none⟩ = some (.pointer (some ⟨b, 0, none⟩)) := (blk_facts hp1).1 0
      have hz1 := hp1.lt
      have HE := Lib.hid (cerr_any hc1)
      have HC := Lib.hid hc1
      have HG1 := Lib.hid hg1
      clear hc1 hg1 hp1 c0 hz HB
      go_wp2_with fail
      refine HE.out.mono ?_
      rintro ex z2 ⟨rfl, ez⟩
      have ez := ez.symm
      subst ez
      go_wp2_with fail
      go_ret
      exact ⟨_, [], _, 6, rfl, IRow.nil _ _, HC.out, fun _ => outc_error hfin.out (by decide), fun h => absurd rfl h, HG1.out⟩
  · have HB := Lib.hid (cbig_bad h he)
    have HE := Lib.hid (cerr_any h)
    have q : (e != 0) = true := by simpa using he
    have HEN := Lib.hid he
    clear h hp he
    go_enter Try.func55, Try.ntmps55
    go_wp2_with fail
    refine HB.out.mono ?_
    rintro ex z ⟨rfl, ez⟩
    have ez := ez.symm
    subst ez
    go_wp2_with fail
    refine HE.out.mono ?_
    rintro ex z2 ⟨rfl, ez⟩
    have ez := ez.symm
    subst ez
    go_wp2_with fail
    go_ret
    exact ⟨_, [], n, e, rfl, IRow.nil _ _, H0.out, fun h => absurd h HEN.out, fun _ => ⟨rfl, rfl⟩, World.grownBy.refl _ _⟩
end
end Go.Proofs.Ytbdkoagagcemcaa

/- Layer 26: a row by its favorites, read in three: what it comes to. -/
namespace Go.Proofs.Ytbdkoagagcemcaa
open Go.RowKit Pp

theorem read_in (c : Cod) : ∀ (n : Nat) (last : Int) (r : List UInt8) (q : List Int × List UInt8), c.read n last r = .ok q → ∀ v ∈ q.1, -2147483648 ≤ v ∧ v < 4294967296
  | 0, last, r, q, h, v, hv => by
    simp only [Cod.read, Except.ok.injEq] at h
    subst h
    cases hv
  | n + 1, last, r, q, h, v, hv => by
    rw [Cod.read_succ] at h
    cases hg : c.get r with
    | error e => rw [hg] at h; cases h
    | ok p =>
      rw [hg] at h
      dsimp only at h
      split at h
      · rename_i hb
        cases hr : c.read n (c.sum last p.1) p.2 with
        | error e => rw [hr] at h; cases h
        | ok q2 =>
          rw [hr] at h
          simp only [pre, Except.ok.injEq] at h
          subst h
          rcases List.mem_cons.1 hv with rfl | hv
          · exact c.sum_in last hb
          · exact read_in c n _ _ _ hr v hv
      · cases h
theorem plainR_facts {kind n : Nat} {r : List UInt8} {q : List Int × List UInt8} (h : plainR kind n r = .ok q) : q.1.length = n ∧ n ≤ r.length ∧ ∀ v ∈ q.1, -2147483648 ≤ v ∧ v < 4294967296 := by
  unfold plainR at h
  cases hc : cods[kind]? with
  | none => rw [hc] at h; cases h
  | some c =>
    rw [hc] at h
    dsimp only at h
    split at h
    · cases h
    · rename_i hl
      exact ⟨read_len c n 0 r q h, by omega, read_in c n 0 r q h⟩
theorem nextR_facts {n : Nat} {r : List UInt8} {q : List Int × List UInt8} (h : nextR n r = .ok q) : q.1.length = n ∧ n ≤ r.length ∧ ∀ v ∈ q.1, -2147483648 ≤ v ∧ v < 4294967296 := by
  cases r with
  | nil => cases h
  | cons k r =>
    have := plainR_facts (show plainR k.toNat n r = .ok q from h)
    refine ⟨this.1, ?_, this.2.2⟩
    simp only [List.length_cons]
    omega
theorem i64_of {vs : List Int} (h : ∀ v ∈ vs, -2147483648 ≤ v ∧ v < 4294967296) : ∀ v ∈ vs, I64 v := fun v hv => by
  have := h v hv
  unfold I64
  omega
/-- The three rows, and what they join to. -/
def trio (m n : Nat) (r : List UInt8) : Except Int (List Int × List UInt8) :=
  match nextR m r with
  | .error e => .error e
  | .ok (fs, r1) => match nextR n r1 with
    | .error e => .error e
    | .ok (ts, r2) => match nextR (ts.count 0) r2 with
      | .error e => .error e
      | .ok (rs, r3) => if Po.err fs ts rs = 0 then .ok (Po.out fs ts rs, r3) else .error (Po.err fs ts rs)
theorem joinR_trio {n : Nat} {m : UInt8} (hm : ¬ (m.toNat < 1 ∨ 15 < m.toNat)) (r : List UInt8) : joinR n (m :: r) = trio m.toNat n r := joinR_cons hm r
theorem joinR_bad {n : Nat} {m : UInt8} (hm : m.toNat < 1 ∨ 15 < m.toNat) (r : List UInt8) : joinR n (m :: r) = .error 2 := by
  show (if m.toNat < 1 ∨ 15 < m.toNat then Except.error 2 else _) = _
  rw [if_pos hm]
/-- What the three calls of 'next' tell. -/
theorem trio_of {m n : Nat} {L l1 l2 l3 : List UInt8} {fs ts rs : List Int} {e1 e2 e3 : Int}
    (h1 : Outc (nextR m L) [] fs e1 l1) (h2 : e1 = 0 → Outc (nextR n l1) [] ts e2 l2) (k2 : e1 ≠ 0 → ts = [] ∧ e2 = e1)
    (h3 : e2 = 0 → Outc (nextR (ts.count 0) l2) [] rs e3 l3) (k3 : e2 ≠ 0 → rs = [] ∧ e3 = e2) :
    (e3 ≠ 0 ∧ trio m n L = .error e3) ∨ (e3 = 0 ∧ (trio m n L = if Po.err fs ts rs = 0 then .ok (Po.out fs ts rs, l3) else .error (Po.err fs ts rs)) ∧
      fs.length = m ∧ ts.length = n ∧ m ≤ L.length ∧ n ≤ l1.length ∧ rs.length = ts.count 0 ∧ (∀ v ∈ fs, I64 v) ∧ (∀ v ∈ rs, I64 v)) := by
  unfold trio
  cases g1 : nextR m L with
  | error e =>
    rw [g1] at h1
    obtain ⟨rfl, hne, rfl⟩ := h1
    obtain ⟨rfl, rfl⟩ := k2 hne
    obtain ⟨rfl, rfl⟩ := k3 hne
    exact .inl ⟨hne, rfl⟩
  | ok p1 =>
    obtain ⟨f0, q1⟩ := p1
    rw [g1] at h1
    obtain ⟨rfl, rfl, rfl⟩ := h1
    dsimp only at *
    have h2 := h2 rfl
    cases g2 : nextR n l1 with
    | error e =>
      rw [g2] at h2
      obtain ⟨rfl, hne, rfl⟩ := h2
      obtain ⟨rfl, rfl⟩ := k3 hne
      exact .inl ⟨hne, rfl⟩
    | ok p2 =>
      obtain ⟨t0, q2⟩ := p2
      rw [g2] at h2
      obtain ⟨rfl, rfl, rfl⟩ := h2
      dsimp only at *
      have h3 := h3 rfl
      cases g3 : nextR (ts.count 0) l2 with
      | error e =>
        rw [g3] at h3
        obtain ⟨rfl, hne, rfl⟩ := h3
        exact .inl ⟨hne, rfl⟩
      | ok p3 =>
        obtain ⟨r0, q3⟩ := p3
        rw [g3] at h3
        obtain ⟨rfl, rfl, rfl⟩ := h3
        have f1 := nextR_facts g1
        have f2 := nextR_facts g2
        have f3 := nextR_facts g3
        exact .inr ⟨rfl, rfl, f1.1, f2.1, f1.2.1, f2.2.1, f3.1, i64_of f1.2.2, i64_of f3.2.2⟩
theorem po_out_err {fs ts rs : List Int} (h : Po.err fs ts rs ≠ 0) : Po.out fs ts rs = [] := if_neg h
end Go.Proofs.Ytbdkoagagcemcaa

/- The walk of layer 26: a row that is read by its favorites. -/
namespace Go.Proofs.Ytbdkoagagcemcaa
open Go.RowKit Pp

theorem outc_len {k : Nat} {L r : List UInt8} {vs : List Int} {e : Int} (h : Outc (nextR k L) [] vs e r) : vs.length ≤ L.length := by
  cases g : nextR k L with
  | error e2 =>
    rw [g] at h
    rw [h.2.2]
    simp
  | ok p =>
    rw [g] at h
    have := nextR_facts g
    rw [h.2.1]
    omega
/-- A row that is read. -/
def IRead (y : World) (base : Nat) (u : Value) (vs : List Int) : Prop := ∃ A c, u = .slice A vs.length c ∧ Ints y A c vs ∧ ∀ g o, A = some ⟨g, o, none⟩ → base ≤ g
theorem IRead.of {y : World} {base : Nat} {u : Value} {vs : List Int} (h : IRow y base u vs) : IRead y base u vs := h.readsB
theorem IRead.lower {y : World} {base b' : Nat} {u : Value} {vs : List Int} (h : IRead y base u vs) (hb : b' ≤ base) : IRead y b' u vs := by
  obtain ⟨A, c, rfl, h1, h2⟩ := h
  exact ⟨A, c, rfl, h1, fun g o e => Nat.le_trans hb (h2 g o e)⟩
theorem Ints.kept {w w1 : World} {A : Option Addr} {c : Nat} {xs : List Int} (h : Ints w A c xs) {o : Option Nat} (k : w.grownBy w1 o) (hne : ∀ g o', A = some ⟨g, o', none⟩ → some g ≠ o) : Ints w1 A c xs :=
  ⟨h.1, fun hp => by
    obtain ⟨g, o', e, hg, hc⟩ := h.2 hp
    exact ⟨g, o', e, Nat.lt_of_lt_of_le hg k.size, fun j x hx => (World.cell?_of_block (k.block g hg (hne g o' e))).trans (hc j x hx)⟩⟩
theorem IRead.kept {y z : World} {base b : Nat} {u : Value} {vs : List Int} (h : IRead y base u vs) (k : y.grownBy z (some b)) (hb : b < base) : IRead z base u vs := by
  obtain ⟨A, c, rfl, h1, h2⟩ := h
  exact ⟨A, c, rfl, h1.kept k (fun g o e e2 => by have := h2 g o e; injection e2 with e2; omega), h2⟩
theorem IRead.grow {y z : World} {base : Nat} {u : Value} {vs : List Int} (h : IRead y base u vs) (k : Below y.heap.size y z) : IRead z base u vs := by
  obtain ⟨A, c, rfl, h1, h2⟩ := h
  exact ⟨A, c, rfl, h1.grow k, h2⟩
theorem IRead.nil (y : World) (base : Nat) : IRead y base (.slice none 0 0) [] := ⟨none, 0, rfl, Ints.nil _ _ _, fun g o e => by cases e⟩
section
variable {x : World} {b : Nat} {A : Option Addr} {cc : Nat} {l : List UInt8} {n : Nat}
set_option maxHeartbeats 8000000 in
set_option maxRecDepth 100000 in
theorem joined_any (h : CurS x b A cc l n 0) (k : Nat) (hk : k ≤ 9223372036854775807) (hl : l.length ≤ 100000) :
    Calls Try.prog 33 #[.pointer (some ⟨b, 0, none⟩), .int .i64 k] x fun ex y => ∃ (u : Value) (vs : List Int) (m : Nat) (e : Int), ex = .returned u ∧ IRead y x.heap.size u vs ∧ CurS y b A cc l m e ∧ Outc (joinR k (l.drop n)) [] vs e (l.drop m) ∧ x.grownBy y (some b) := by
  have H0 := Lib.hid h
  have hbl := h.lt
  have hnl := h.le
  have k1 := (Below.refl x.heap.size x).alloc (Nat.le_refl _) (.cells #[.pointer (some ⟨b, 0, none⟩)] 29)
  have hp0 : PcBox (x.alloc (.cells #[.pointer (some ⟨b, 0, none⟩)] 29)) x.heap.size b := heap_alloc_new _ _
  have h1 := h.grow k1
  have HP0 := Lib.hid hp0
  have HG0 := Lib.hid (grownBy_below k1 (some b))
  have H1 := Lib.hid h1
  -- what is read first, and the error then
  have hmany : ∃ (mm m1 : Nat) (e1 : Int) (ca : Calls Try.prog 32 #[.pointer (some ⟨b, 0, none⟩), .int .i64 1] (x.alloc (.cells #[.pointer (some ⟨b, 0, none⟩)] 29)) fun ex y => ex = .returned (.int .u64 (mm : Int)) ∧ CurS y b A cc l m1 e1 ∧ (x.alloc (.cells #[.pointer (some ⟨b, 0, none⟩)] 29)).grownBy y (some b)),
      mm ≤ 255 ∧ ((e1 = 0 ∧ 1 ≤ mm ∧ mm ≤ 15 ∧ joinR k (l.drop n) = trio mm k (l.drop m1)) ∨ ((mm < 1 ∨ 15 < mm) ∧ ∃ e2, fe e1 2 = e2 ∧ e2 ≠ 0 ∧ joinR k (l.drop n) = .error e2)) := by
    by_cases hend : n < l.length
    · obtain ⟨a, ha⟩ : ∃ a, l[n]? = some a := ⟨_, List.getElem?_eq_getElem hend⟩
      have hab := a.toNat_lt
      refine ⟨a.toNat, n + 1, 0, cbig_ok h1 ha, by omega, ?_⟩
      rw [drop_atI ha]
      by_cases hm : a.toNat < 1 ∨ 15 < a.toNat
      · exact .inr ⟨hm, 2, rfl, by decide, joinR_bad hm _⟩
      · exact .inl ⟨rfl, by omega, by omega, joinR_trio hm _⟩
    · refine ⟨0, n, 6, cbig_end h1 (by omega), by omega, .inr ⟨.inl (by omega), 6, rfl, by decide, ?_⟩⟩
      rw [List.drop_of_length_le (by omega)]
      rfl
  obtain ⟨mm, m1, e1, ca, hmm, hcase⟩ := hmany
  have HCA := Lib.hid ca
  have HCS := Lib.hid hcase
  clear ca hcase h hp0 k1 h1
  go_enter Try.func33, Try.ntmps33
  go_wp2_with fail
  refine HCA.out.mono ?_
  rintro ex y ⟨rfl, hc1, hg1⟩
  have hp1 := HP0.out.kept hg1 (HP0.out.ne H1.out)
  have c1 : y.cell? ⟨x.heap.size, 0, none⟩ = some (.pointer (some ⟨b, 0, none⟩)) := (blk_facts hp1).1 0
  have hz1 := hp1.lt
  have HP1 := Lib.hid hp1
  have HG1 := Lib.hid (grownBy_trans HG0.out hg1 (.inl rfl))
  have HC1 := Lib.hid hc1
  clear hp1 hg1 hc1 HP0 HG0 H1 HCA
  have hcs := HCS.out
  rcases hcs with ⟨rfl, q1, q2, hjo⟩ | ⟨q1, e2, hfe, hne2, hjo⟩
  · -- good
    have q3 : decide ((mm : Int) < 1) = false := decide_eq_false (by omega)
    have q4 : decide ((15 : Int) < (mm : Int)) = false := decide_eq_false (by omega)
    have q5 : decide (15 < mm) = false := decide_eq_false (by omega)
    have q6 : decide (mm < 1) = false := decide_eq_false (by omega)
    have HJO := Lib.hid hjo
    clear hjo
    have HN1 := Lib.hid (next_any x.heap.size HC1.out HP1.out mm (by omega))
    go_wp2_with fail
    refine HN1.out.mono ?_
    rintro ex w1 ⟨u1, fs, n1, r1, rfl, hr1, hc1, ho1, hb1, hg1⟩
    have HQ1 := Lib.hid (HP1.out.kept hg1 (HP1.out.ne HC1.out))
    have HR1 := Lib.hid hr1
    have HD1 := Lib.hid hc1
    have HO1 := Lib.hid ho1
    have HB1 := Lib.hid hb1
    have HG1b := Lib.hid (grownBy_trans HG1.out hg1 (.inl rfl))
    clear hr1 hc1 ho1 hb1 hg1 HN1
    have HN2 := Lib.hid (next_any x.heap.size HD1.out HQ1.out k hk)
    go_wp2_with fail
    refine HN2.out.mono ?_
    rintro ex w2 ⟨u2, ts, n2, r2, rfl, hr2, hc2, ho2, hb2, hg2⟩
    have HQ2 := Lib.hid (HQ1.out.kept hg2 (HQ1.out.ne HD1.out))
    have HR12 := Lib.hid (irow_kept HR1.out hg2 HD1.out.box (by decide))
    have HR2 := Lib.hid hr2
    have HD2 := Lib.hid hc2
    have HO2 := Lib.hid ho2
    have HB2 := Lib.hid hb2
    have HG2 := Lib.hid (grownBy_trans HG1b.out hg2 (.inl rfl))
    have HS12 := Lib.hid hg2.size
    obtain ⟨A2, c2, rfl, hi2⟩ := hr2.reads
    have htl : ts.length ≤ 100000 := by
      by_cases h0 : r1 = 0
      · have g1 := outc_len (ho2 h0)
        rw [List.length_drop] at g1
        omega
      · rw [(hb2 h0).1]; simp
    have HCn := Lib.hid (bcount_any A2 c2 ts w2 hi2 (by omega))
    have hcl : ts.count 0 ≤ ts.length := List.count_le_length
    clear hr2 hc2 ho2 hb2 hg2 HN2 HR1 hi2
    go_wp2_with fail
    refine HCn.out.mono ?_
    rintro ex w2b ⟨rfl, ew⟩
    have ew := ew.symm
    subst ew
    have HN3 := Lib.hid (next_any x.heap.size HD2.out HQ2.out (ts.count 0) (by omega))
    go_wp2_with fail
    refine HN3.out.mono ?_
    rintro ex w3 ⟨u3, rs, n3, r3, rfl, hr3, hc3, ho3, hb3, hg3⟩
    have hq3 := HQ2.out.kept hg3 (HQ2.out.ne HD2.out)
    have d1 : w3.cell? ⟨x.heap.size, 0, none⟩ = some (.pointer (some ⟨b, 0, none⟩)) := (blk_facts hq3).1 0
    have hz3 := hq3.lt
    have HR13 := Lib.hid (irow_kept HR12.out hg3 HD2.out.box (by decide))
    have HR23 := Lib.hid (irow_kept HR2.out hg3 HD2.out.box (by decide))
    have HR3 := Lib.hid hr3
    have HD3 := Lib.hid hc3
    have HO3 := Lib.hid ho3
    have HB3 := Lib.hid hb3
    have HG3 := Lib.hid (grownBy_trans HG2.out hg3 (.inl rfl))
    have HE3 := Lib.hid (cerr_any hc3)
    have HS3 := Lib.hid hg3.size
    have HQ3 := Lib.hid hq3
    clear hr3 hc3 ho3 hb3 hg3 HN3 HR12 HR2 hq3 HCn
    go_wp2_with fail
    refine HE3.out.mono ?_
    rintro ex w4 ⟨rfl, ew⟩
    have ew := ew.symm
    subst ew
    clear HE3
    have hkey := trio_of (m := mm) (n := k) (HO1.out (by trivial)) HO2.out HB2.out HO3.out HB3.out
    have HK := Lib.hid hkey
    clear hkey
    by_cases hr0 : r3 = 0
    · subst hr0
      obtain ⟨hj, hfl, htl2, _, hkl, hrl, hI, hJ⟩ : (trio mm k (l.drop m1) = if Po.err fs ts rs = 0 then .ok (Po.out fs ts rs, l.drop n3) else .error (Po.err fs ts rs)) ∧ fs.length = mm ∧ ts.length = k ∧ mm ≤ (l.drop m1).length ∧ k ≤ (l.drop n1).length ∧ rs.length = ts.count 0 ∧ (∀ v ∈ fs, I64 v) ∧ (∀ v ∈ rs, I64 v) := by
        rcases HK.out with ⟨h, _⟩ | ⟨_, h⟩
        · exact absurd rfl h
        · exact h
      have HJ := Lib.hid (HJO.out.trans hj)
      obtain ⟨A1, k1, rfl, hi1⟩ := HR13.out.reads
      obtain ⟨A2', k2, e2', hi2⟩ := HR23.out.reads
      cases e2'
      obtain ⟨A3, k3, rfl, hi3⟩ := HR3.out.reads
      have HJn := Lib.hid (join_any A1 A2 A3 k1 c2 k3 fs ts rs w3 hi1 hi2 hi3 hI hJ (by omega) (by omega) (by omega))
      clear hi1 hi2 hi3 hI hJ hj HR13 HR23 HR3 HK hfl htl2 hrl hkl
      go_wp2_with fail
      refine HJn.out.mono ?_
      rintro ex w5 ⟨A5, k5, rfl, ⟨hi5, hf5⟩, hb5⟩
      have hq5 := HQ3.out.grow hb5
      have d5 : w5.cell? ⟨x.heap.size, 0, none⟩ = some (.pointer (some ⟨b, 0, none⟩)) := (blk_facts hq5).1 0
      have hz5 := hq5.lt
      have HD5 := Lib.hid (HD3.out.grow hb5)
      have HG5 := Lib.hid (grownBy_trans HG3.out (grownBy_below hb5 none) (.inr fun g e => by cases e))
      have HI5 := Lib.hid (show IRead w5 x.heap.size (.slice A5 (Po.out fs ts rs).length k5) (Po.out fs ts rs) from ⟨A5, k5, rfl, hi5, fun g o e => Nat.le_trans HG3.out.size (hf5 g o e)⟩)
      clear hi5 hf5 hb5 hq5 HJn d1 hz3
      by_cases her : Po.err fs ts rs = 0
      · have q7 : (Po.err fs ts rs != 0) = false := by simp [her]
        have hfin := Lib.hid (HJ.out.trans (if_pos her))
        clear her
        go_wp2_with fail
        go_ret
        exact ⟨_, _, _, 0, rfl, HI5.out, HD5.out, outc_ok hfin.out, HG5.out⟩
      · have q7 : (Po.err fs ts rs != 0) = true := by simp [her]
        have hfin := Lib.hid (HJ.out.trans (if_neg her))
        have HFl := Lib.hid (cfail_any (Po.err fs ts rs) HD5.out)
        have HER := Lib.hid her
        have hno := Lib.hid (po_out_err her)
        clear her
        go_wp2_with fail
        refine HFl.out.mono ?_
        rintro ex w6 ⟨rfl, hc6, hg6⟩
        have e9 : fe 0 (Po.err fs ts rs) = Po.err fs ts rs := rfl
        rw [e9] at hc6
        have HD6 := Lib.hid hc6
        have HG6 := Lib.hid (grownBy_trans HG5.out hg6 (.inl rfl))
        have HI6 := Lib.hid (HI5.out.kept hg6 hbl)
        clear hc6 hg6 HFl e9
        go_wp2_with fail
        go_ret
        exact ⟨_, [], _, _, rfl, hno.out ▸ HI6.out, HD6.out, outc_error hfin.out HER.out, HG6.out⟩
    · have q7 : (r3 != 0) = true := by simpa using hr0
      have hfin := Lib.hid (show joinR k (l.drop n) = .error r3 by
        rcases HK.out with ⟨_, h⟩ | ⟨h, _⟩
        · exact HJO.out.trans h
        · exact absurd h hr0)
      have HRN := Lib.hid hr0
      clear hr0
      go_wp2_with fail
      go_ret
      exact ⟨_, [], _, r3, rfl, IRead.nil _ _, HD3.out, outc_error hfin.out HRN.out, HG3.out⟩
  · -- bad
    rcases q1 with q1 | q1
    · have q3 : decide ((mm : Int) < 1) = true := decide_eq_true (by omega)
      have q6 : decide (mm < 1) = true := decide_eq_true (by omega)
      have HFl := Lib.hid (cfail_any 2 HC1.out)
      have HJO := Lib.hid hjo
      have HN2E := Lib.hid hne2
      clear hjo hne2
      go_wp2_with fail
      refine HFl.out.mono ?_
      rintro ex yb ⟨rfl, hcb, hgb⟩
      rw [hfe] at hcb
      have HPb := Lib.hid (HP1.out.kept hgb (HP1.out.ne HC1.out))
      have HCb := Lib.hid hcb
      have HGb := Lib.hid (grownBy_trans HG1.out hgb (.inl rfl))
      have db : yb.cell? ⟨x.heap.size, 0, none⟩ = some (.pointer (some ⟨b, 0, none⟩)) := (blk_facts HPb.out).1 0
      have hzb := HPb.out.lt
      clear hcb hgb HFl c1 hz1 HP1 HG1 HC1 hfe
      have HN1 := Lib.hid (next_any x.heap.size HCb.out HPb.out mm (by omega))
      go_wp2_with fail
      refine HN1.out.mono ?_
      rintro ex w1 ⟨u1, fs, n1, r1, rfl, hr1, hc1, ho1, hb1, hg1⟩
      have HQ1 := Lib.hid (HPb.out.kept hg1 (HPb.out.ne HCb.out))
      have HR1 := Lib.hid hr1
      have HD1 := Lib.hid hc1
      have HO1 := Lib.hid ho1
      have HB1 := Lib.hid hb1
      have HG1b := Lib.hid (grownBy_trans HGb.out hg1 (.inl rfl))
      clear hr1 hc1 ho1 hb1 hg1 HN1
      have HN2 := Lib.hid (next_any x.heap.size HD1.out HQ1.out k hk)
      go_wp2_with fail
      refine HN2.out.mono ?_
      rintro ex w2 ⟨u2, ts, n2, r2, rfl, hr2, hc2, ho2, hb2, hg2⟩
      have HQ2 := Lib.hid (HQ1.out.kept hg2 (HQ1.out.ne HD1.out))
      have HR12 := Lib.hid (irow_kept HR1.out hg2 HD1.out.box (by decide))
      have HR2 := Lib.hid hr2
      have HD2 := Lib.hid hc2
      have HO2 := Lib.hid ho2
      have HB2 := Lib.hid hb2
      have HG2 := Lib.hid (grownBy_trans HG1b.out hg2 (.inl rfl))
      have HS12 := Lib.hid hg2.size
      obtain ⟨A2, c2, rfl, hi2⟩ := hr2.reads
      have htl : ts.length ≤ 100000 := by
        by_cases h0 : r1 = 0
        · have g1 := outc_len (ho2 h0)
          rw [List.length_drop] at g1
          omega
        · rw [(hb2 h0).1]; simp
      have HCn := Lib.hid (bcount_any A2 c2 ts w2 hi2 (by omega))
      have hcl : ts.count 0 ≤ ts.length := List.count_le_length
      clear hr2 hc2 ho2 hb2 hg2 HN2 HR1 hi2
      go_wp2_with fail
      refine HCn.out.mono ?_
      rintro ex w2b ⟨rfl, ew⟩
      have ew := ew.symm
      subst ew
      have HN3 := Lib.hid (next_any x.heap.size HD2.out HQ2.out (ts.count 0) (by omega))
      go_wp2_with fail
      refine HN3.out.mono ?_
      rintro ex w3 ⟨u3, rs, n3, r3, rfl, hr3, hc3, ho3, hb3, hg3⟩
      have hq3 := HQ2.out.kept hg3 (HQ2.out.ne HD2.out)
      have d1 : w3.cell? ⟨x.heap.size, 0, none⟩ = some (.pointer (some ⟨b, 0, none⟩)) := (blk_facts hq3).1 0
      have hz3 := hq3.lt
      have HR13 := Lib.hid (irow_kept HR12.out hg3 HD2.out.box (by decide))
      have HR23 := Lib.hid (irow_kept HR2.out hg3 HD2.out.box (by decide))
      have HR3 := Lib.hid hr3
      have HD3 := Lib.hid hc3
      have HO3 := Lib.hid ho3
      have HB3 := Lib.hid hb3
      have HG3 := Lib.hid (grownBy_trans HG2.out hg3 (.inl rfl))
      have HE3 := Lib.hid (cerr_any hc3)
      have HS3 := Lib.hid hg3.size
      have HQ3 := Lib.hid hq3
      clear hr3 hc3 ho3 hb3 hg3 HN3 HR12 HR2 hq3 HCn
      go_wp2_with fail
      refine HE3.out.mono ?_
      rintro ex w4 ⟨rfl, ew⟩
      have ew := ew.symm
      subst ew
      clear HE3
      obtain ⟨rfl, rfl⟩ := HB1.out HN2E.out
      obtain ⟨rfl, rfl⟩ := HB2.out HN2E.out
      obtain ⟨rfl, rfl⟩ := HB3.out HN2E.out
      have q7 : (r3 != 0) = true := by simpa using HN2E.out
      go_wp2_with fail
      go_ret
      exact ⟨_, [], _, r3, rfl, IRead.nil _ _, HD3.out, outc_error HJO.out HN2E.out, HG3.out⟩
    · have q3 : decide ((mm : Int) < 1) = false := decide_eq_false (by omega)
      have q4 : decide ((15 : Int) < (mm : Int)) = true := decide_eq_true (by omega)
      have q5 : decide (15 < mm) = true := decide_eq_true (by omega)
      have q6 : decide (mm < 1) = false := decide_eq_false (by omega)
      have HFl := Lib.hid (cfail_any 2 HC1.out)
      have HJO := Lib.hid hjo
      have HN2E := Lib.hid hne2
      clear hjo hne2
      go_wp2_with fail
      refine HFl.out.mono ?_
      rintro ex yb ⟨rfl, hcb, hgb⟩
      rw [hfe] at hcb
      have HPb := Lib.hid (HP1.out.kept hgb (HP1.out.ne HC1.out))
      have HCb := Lib.hid hcb
      have HGb := Lib.hid (grownBy_trans HG1.out hgb (.inl rfl))
      have db : yb.cell? ⟨x.heap.size, 0, none⟩ = some (.pointer (some ⟨b, 0, none⟩)) := (blk_facts HPb.out).1 0
      have hzb := HPb.out.lt
      clear hcb hgb HFl c1 hz1 HP1 HG1 HC1 hfe
      have HN1 := Lib.hid (next_any x.heap.size HCb.out HPb.out mm (by omega))
      go_wp2_with fail
      refine HN1.out.mono ?_
      rintro ex w1 ⟨u1, fs, n1, r1, rfl, hr1, hc1, ho1, hb1, hg1⟩
      have HQ1 := Lib.hid (HPb.out.kept hg1 (HPb.out.ne HCb.out))
      have HR1 := Lib.hid hr1
      have HD1 := Lib.hid hc1
      have HO1 := Lib.hid ho1
      have HB1 := Lib.hid hb1
      have HG1b := Lib.hid (grownBy_trans HGb.out hg1 (.inl rfl))
      clear hr1 hc1 ho1 hb1 hg1 HN1
      have HN2 := Lib.hid (next_any x.heap.size HD1.out HQ1.out k hk)
      go_wp2_with fail
      refine HN2.out.mono ?_
      rintro ex w2 ⟨u2, ts, n2, r2, rfl, hr2, hc2, ho2, hb2, hg2⟩
      have HQ2 := Lib.hid (HQ1.out.kept hg2 (HQ1.out.ne HD1.out))
      have HR12 := Lib.hid (irow_kept HR1.out hg2 HD1.out.box (by decide))
      have HR2 := Lib.hid hr2
      have HD2 := Lib.hid hc2
      have HO2 := Lib.hid ho2
      have HB2 := Lib.hid hb2
      have HG2 := Lib.hid (grownBy_trans HG1b.out hg2 (.inl rfl))
      have HS12 := Lib.hid hg2.size
      obtain ⟨A2, c2, rfl, hi2⟩ := hr2.reads
      have htl : ts.length ≤ 100000 := by
        by_cases h0 : r1 = 0
        · have g1 := outc_len (ho2 h0)
          rw [List.length_drop] at g1
          omega
        · rw [(hb2 h0).1]; simp
      have HCn := Lib.hid (bcount_any A2 c2 ts w2 hi2 (by omega))
      have hcl : ts.count 0 ≤ ts.length := List.count_le_length
      clear hr2 hc2 ho2 hb2 hg2 HN2 HR1 hi2
      go_wp2_with fail
      refine HCn.out.mono ?_
      rintro ex w2b ⟨rfl, ew⟩
      have ew := ew.symm
      subst ew
      have HN3 := Lib.hid (next_any x.heap.size HD2.out HQ2.out (ts.count 0) (by omega))
      go_wp2_with fail
      refine HN3.out.mono ?_
      rintro ex w3 ⟨u3, rs, n3, r3, rfl, hr3, hc3, ho3, hb3, hg3⟩
      have hq3 := HQ2.out.kept hg3 (HQ2.out.ne HD2.out)
      have d1 : w3.cell? ⟨x.heap.size, 0, none⟩ = some (.pointer (some ⟨b, 0, none⟩)) := (blk_facts hq3).1 0
      have hz3 := hq3.lt
      have HR13 := Lib.hid (irow_kept HR12.out hg3 HD2.out.box (by decide))
      have HR23 := Lib.hid (irow_kept HR2.out hg3 HD2.out.box (by decide))
      have HR3 := Lib.hid hr3
      have HD3 := Lib.hid hc3
      have HO3 := Lib.hid ho3
      have HB3 := Lib.hid hb3
      have HG3 := Lib.hid (grownBy_trans HG2.out hg3 (.inl rfl))
      have HE3 := Lib.hid (cerr_any hc3)
      have HS3 := Lib.hid hg3.size
      have HQ3 := Lib.hid hq3
      clear hr3 hc3 ho3 hb3 hg3 HN3 HR12 HR2 hq3 HCn
      go_wp2_with fail
      refine HE3.out.mono ?_
      rintro ex w4 ⟨rfl, ew⟩
      have ew := ew.symm
      subst ew
      clear HE3
      obtain ⟨rfl, rfl⟩ := HB1.out HN2E.out
      obtain ⟨rfl, rfl⟩ := HB2.out HN2E.out
      obtain ⟨rfl, rfl⟩ := HB3.out HN2E.out
      have q7 : (r3 != 0) = true := by simpa using HN2E.out
      go_wp2_with fail
      go_ret
      exact ⟨_, [], _, r3, rfl, IRead.nil _ _, HD3.out, outc_error HJO.out HN2E.out, HG3.out⟩
end
end Go.Proofs.Ytbdkoagagcemcaa

/- Layer 27 plain: texts in order, as bytes; what is written is read as it was. No program. -/
namespace Go.Proofs.Ytbdkoagagcemcaa
open Pp

/-- How many bytes two texts begin with alike. -/
def shared : List UInt8 → List UInt8 → Nat
  | a :: x, b :: y => if a = b then shared x y + 1 else 0
  | _, _ => 0
theorem shared_le_l : ∀ a b : List UInt8, shared a b ≤ a.length
  | [], b => by simp [shared]
  | a :: x, [] => by simp [shared]
  | a :: x, b :: y => by
    unfold shared
    split
    · have := shared_le_l x y; simp only [List.length_cons]; omega
    · omega
theorem shared_le_r : ∀ a b : List UInt8, shared a b ≤ b.length
  | [], b => by simp [shared]
  | a :: x, [] => by simp [shared]
  | a :: x, b :: y => by
    unfold shared
    split
    · have := shared_le_r x y; simp only [List.length_cons]; omega
    · omega
theorem shared_take : ∀ a b : List UInt8, a.take (shared a b) = b.take (shared a b)
  | [], b => by simp [shared]
  | a :: x, [] => by simp [shared]
  | a :: x, b :: y => by
    unfold shared
    split
    · rename_i h
      rw [h, List.take_succ_cons, List.take_succ_cons, shared_take x y]
    · simp
/-- The columns of texts behind another one. -/
def wBegins : List UInt8 → List (List UInt8) → List Int
  | _, [] => []
  | last, s :: l => (shared last s : Int) :: wBegins s l
def wMore : List UInt8 → List (List UInt8) → List Int
  | _, [] => []
  | last, s :: l => ((s.length - shared last s : Nat) : Int) :: wMore s l
def wTail : List UInt8 → List (List UInt8) → List UInt8
  | _, [] => []
  | last, s :: l => s.drop (shared last s) ++ wTail s l
theorem wBegins_len : ∀ (l : List (List UInt8)) (last : List UInt8), (wBegins last l).length = l.length
  | [], _ => rfl
  | s :: l, last => by simp [wBegins, wBegins_len l s]
theorem wMore_len : ∀ (l : List (List UInt8)) (last : List UInt8), (wMore last l).length = l.length
  | [], _ => rfl
  | s :: l, last => by simp [wMore, wMore_len l s]
def sumL (l : List (List UInt8)) : Nat := (l.map List.length).sum
/-- Each behind the one ahead of it. -/
def risesL : List (List UInt8) → Prop
  | [] => True
  | [_] => True
  | a :: b :: l => a < b ∧ risesL (b :: l)
instance decRises : ∀ l : List (List UInt8), Decidable (risesL l)
  | [] => .isTrue trivial
  | [_] => .isTrue trivial
  | a :: b :: l => by
    unfold risesL
    have := decRises (b :: l)
    infer_instance
/-- Why texts aren't written, or nought. -/
def wordsE (l : List (List UInt8)) : Int := if 16777216 ≤ l.length then 4 else if ¬ risesL l then 2 else if 16777216 < sumL l then 3 else 0
def join3 : Option (List UInt8) → Option (List UInt8) → Option (List UInt8) → List UInt8 → Option (List UInt8)
  | some a, some b, some c, d => some (a ++ b ++ c ++ d)
  | _, _, _, _ => none
theorem join3_some : ∀ {a b c : Option (List UInt8)} {d x : List UInt8}, join3 a b c d = some x → ∃ a' b' c', a = some a' ∧ b = some b' ∧ c = some c' ∧ x = a' ++ b' ++ c' ++ d
  | some a, some b, some c, d, x, h => ⟨a, b, c, rfl, rfl, rfl, (Option.some.inj h).symm⟩
  | none, _, _, _, _, h => by simp [join3] at h
  | some _, none, _, _, _, h => by simp [join3] at h
  | some _, some _, none, _, _, h => by simp [join3] at h
def wordsB (l : List (List UInt8)) : Option (List UInt8) := join3 (bandW [(l.length : Int)]) (bandW (wBegins [] l)) (bandW (wMore [] l)) (wTail [] l)
/-- A band of so many numbers, that may be too many. -/
def bandN (n : Int) (r : List UInt8) : Except Int (List Int × List UInt8) := if n < 0 ∨ 16777216 < n then .error 1 else bandR n.toNat r
/-- The texts, by their columns: behind the last one, with so many bytes told. -/
def wGo (most : Int) (first : Bool) (last : List UInt8) (sum : Int) : List Int → List Int → List UInt8 → Except Int (List (List UInt8) × List UInt8)
  | n :: ns, m :: ms, r =>
    if n < 0 ∨ (last.length : Int) < n ∨ m < 0 then .error 2
    else if most < sum + (n + m) then .error 3
    else if (r.length : Int) < m then .error 6
    else if first = false ∧ ¬ last < last.take n.toNat ++ r.take m.toNat then .error 2
    else match wGo most false (last.take n.toNat ++ r.take m.toNat) (sum + (n + m)) ns ms (r.drop m.toNat) with
      | .error e => .error e
      | .ok (l, r') => .ok ((last.take n.toNat ++ r.take m.toNat) :: l, r')
  | [], _, r => .ok ([], r)
  | _, [], r => .ok ([], r)
def wordsR (most : Int) (r : List UInt8) : Except Int (List (List UInt8) × List UInt8) :=
  if most < 0 ∨ 16777216 < most then .error 1 else
  match bandR 1 r with
  | .error e => .error e
  | .ok (k, r0) => match bandN (k.getD 0 0) r0 with
    | .error e => .error e
    | .ok (ns, r1) => match bandN (k.getD 0 0) r1 with
      | .error e => .error e
      | .ok (ms, r2) => wGo most true [] 0 ns ms r2
theorem wGo_back (most : Int) : ∀ (l : List (List UInt8)) (first : Bool) (last : List UInt8) (sum : Int) (r : List UInt8), (first = true → True) → (first = false → risesL (last :: l)) → risesL l → sum + (sumL l : Int) ≤ most → wGo most first last sum (wBegins last l) (wMore last l) (wTail last l ++ r) = .ok (l, r)
  | [], first, last, sum, r, _, _, _, _ => by simp [wBegins, wGo, wTail]
  | s :: l, first, last, sum, r, _, h2, h3, h4 => by
    have hl := shared_le_l last s
    have hr := shared_le_r last s
    have hsum : sumL (s :: l) = s.length + sumL l := by simp [sumL]
    have htk : last.take (shared last s) ++ (s.drop (shared last s) ++ wTail s l ++ r).take (s.length - shared last s) = s := by
      have e1 : (s.drop (shared last s)).take (s.length - shared last s) = s.drop (shared last s) := List.take_of_length_le (by rw [List.length_drop]; exact Nat.le_refl _)
      rw [shared_take, List.append_assoc, List.take_append_of_le_length (by rw [List.length_drop]; exact Nat.le_refl _), e1, List.take_append_drop]
    have hdr : (s.drop (shared last s) ++ wTail s l ++ r).drop (s.length - shared last s) = wTail s l ++ r := by
      have e1 : (s.drop (shared last s)).drop (s.length - shared last s) = [] := List.drop_of_length_le (by rw [List.length_drop]; exact Nat.le_refl _)
      rw [List.append_assoc, List.drop_append_of_le_length (by rw [List.length_drop]; exact Nat.le_refl _), e1, List.nil_append]
    have hrest : risesL l := by
      cases l with
      | nil => trivial
      | cons b l => exact h3.2
    unfold wBegins wMore wTail
    unfold wGo
    rw [if_neg (by omega), if_neg (by rw [hsum] at h4; omega), if_neg (by simp only [List.length_append, List.length_drop]; omega)]
    simp only [Int.toNat_natCast]
    rw [htk, hdr, if_neg (fun h => h.2 (h2 h.1).1), wGo_back most l false s _ r (fun h => by cases h) (fun _ => h3) hrest (by rw [hsum] at h4; omega)]
theorem bandN_back {l : List Int} {x : List UInt8} (h : bandW l = some x) (hl : l.length ≤ 16777216) (r : List UInt8) : bandN (l.length : Int) (x ++ r) = .ok (l, r) := by
  unfold bandN
  rw [if_neg (by omega), Int.toNat_natCast]
  exact band_back h r
theorem wordsE_zero {l : List (List UInt8)} (h : wordsE l = 0) : l.length < 16777216 ∧ risesL l := by
  unfold wordsE at h
  by_cases h1 : 16777216 ≤ l.length
  · rw [if_pos h1] at h
    exact absurd h (by decide)
  · rw [if_neg h1] at h
    by_cases h2 : risesL l
    · exact ⟨Nat.lt_of_not_le h1, h2⟩
    · rw [if_pos h2] at h
      exact absurd h (by decide)
theorem wordsB_some {l : List (List UInt8)} {x : List UInt8} (h : wordsB l = some x) : ∃ a b c, bandW [(l.length : Int)] = some a ∧ bandW (wBegins [] l) = some b ∧ bandW (wMore [] l) = some c ∧ x = a ++ b ++ c ++ wTail [] l := join3_some h
theorem wordsR_eq {most : Int} (hm : ¬ (most < 0 ∨ 16777216 < most)) {x r0 r1 r2 : List UInt8} {k ns ms : List Int} (h1 : bandR 1 x = .ok (k, r0)) (h2 : bandN (k.getD 0 0) r0 = .ok (ns, r1)) (h3 : bandN (k.getD 0 0) r1 = .ok (ms, r2)) : wordsR most x = wGo most true [] 0 ns ms r2 := by
  unfold wordsR
  rw [if_neg hm, h1]
  dsimp only
  rw [h2]
  dsimp only
  rw [h3]
theorem head_len {most : Int} (hm0 : 0 ≤ most) (hmost : most ≤ 16777216) : ¬ (most < 0 ∨ 16777216 < most) := by omega
/-- The first three bands of what is written. -/
theorem words_head {l : List (List UInt8)} {x : List UInt8} (h : wordsB l = some x) (hlen : l.length < 16777216) {most : Int} (hm0 : 0 ≤ most) (hmost : most ≤ 16777216) (r : List UInt8) : wordsR most (x ++ r) = wGo most true [] 0 (wBegins [] l) (wMore [] l) (wTail [] l ++ r) := by
  obtain ⟨a, b, c, ha, hb, hc, rfl⟩ := wordsB_some h
  have e : a ++ b ++ c ++ wTail [] l ++ r = a ++ (b ++ (c ++ (wTail [] l ++ r))) := by simp only [List.append_assoc]
  have h1 : bandR 1 (a ++ (b ++ (c ++ (wTail [] l ++ r)))) = _ := band_back ha _
  have h2 := bandN_back hb (by rw [wBegins_len]; exact Nat.le_of_lt hlen) (c ++ (wTail [] l ++ r))
  rw [wBegins_len] at h2
  have h3 := bandN_back hc (by rw [wMore_len]; exact Nat.le_of_lt hlen) (wTail [] l ++ r)
  rw [wMore_len] at h3
  rw [e]
  exact wordsR_eq (head_len hm0 hmost) h1 h2 h3
/-- What is written is read as it was, by just that room or more. -/
theorem words_back {l : List (List UInt8)} {x : List UInt8} (h : wordsB l = some x) (he : wordsE l = 0) {most : Int} (hm : (sumL l : Int) ≤ most) (hmost : most ≤ 16777216) (r : List UInt8) : wordsR most (x ++ r) = .ok (l, r) := by
  obtain ⟨hlen, hris⟩ := wordsE_zero he
  rw [words_head h hlen (by omega) hmost r]
  exact wGo_back most l true [] 0 r (fun _ => trivial) (fun h => by cases h) hris (by omega)
/-- By less room it isn't. -/
theorem wGo_less (most : Int) : ∀ (l : List (List UInt8)) (first : Bool) (last : List UInt8) (sum : Int) (r : List UInt8), (first = false → risesL (last :: l)) → risesL l → sum ≤ most → most < sum + (sumL l : Int) → wGo most first last sum (wBegins last l) (wMore last l) (wTail last l ++ r) = .error 3
  | [], first, last, sum, r, _, _, h3, h4 => by simp [sumL] at h4; omega
  | s :: l, first, last, sum, r, h2, h3, h5, h4 => by
    have hl := shared_le_l last s
    have hr := shared_le_r last s
    have hsum : sumL (s :: l) = s.length + sumL l := by simp [sumL]
    have e0 : (s.drop (shared last s)).take (s.length - shared last s) = s.drop (shared last s) := List.take_of_length_le (by rw [List.length_drop]; exact Nat.le_refl _)
    have htk : last.take (shared last s) ++ (s.drop (shared last s) ++ wTail s l ++ r).take (s.length - shared last s) = s := by
      rw [shared_take, List.append_assoc, List.take_append_of_le_length (by rw [List.length_drop]; exact Nat.le_refl _), e0, List.take_append_drop]
    have e1 : (s.drop (shared last s)).drop (s.length - shared last s) = [] := List.drop_of_length_le (by rw [List.length_drop]; exact Nat.le_refl _)
    have hdr : (s.drop (shared last s) ++ wTail s l ++ r).drop (s.length - shared last s) = wTail s l ++ r := by
      rw [List.append_assoc, List.drop_append_of_le_length (by rw [List.length_drop]; exact Nat.le_refl _), e1, List.nil_append]
    have hrest : risesL l := by
      cases l with
      | nil => trivial
      | cons b l => exact h3.2
    unfold wBegins wMore wTail
    unfold wGo
    rw [if_neg (by omega)]
    by_cases h6 : most < sum + (((shared last s : Nat) : Int) + ((s.length - shared last s : Nat) : Int))
    · rw [if_pos h6]
    · rw [if_neg h6, if_neg (by simp only [List.length_append, List.length_drop]; omega)]
      simp only [Int.toNat_natCast]
      rw [htk, hdr, if_neg (fun h => h.2 (h2 h.1).1), wGo_less most l false s _ r (fun _ => h3) hrest (by omega) (by rw [hsum] at h4; omega)]
theorem words_less {l : List (List UInt8)} {x : List UInt8} (h : wordsB l = some x) (he : wordsE l = 0) {most : Int} (hm0 : 0 ≤ most) (hm : most < (sumL l : Int)) (hmost : most ≤ 16777216) (r : List UInt8) : wordsR most (x ++ r) = .error 3 := by
  obtain ⟨hlen, hris⟩ := wordsE_zero he
  rw [words_head h hlen hm0 hmost r]
  exact wGo_less most l true [] 0 r (fun h => by cases h) hris hm0 (by omega)
end Go.Proofs.Ytbdkoagagcemcaa

/- The walk of layer 26: a band that is read. -/
namespace Go.Proofs.Ytbdkoagagcemcaa
open Go.RowKit Pp

/-- What a band's reading comes to, whether there is an error ahead or not. -/
def BandRes (b : Nat) (A : Option Addr) (cc : Nat) (l : List UInt8) (n : Nat) (e : Int) (k : Int) (x : World) (ex : Ending) (y : World) : Prop :=
  ∃ (u : Value) (vs : List Int) (m : Nat) (e' : Int), ex = .returned u ∧ IRead y x.heap.size u vs ∧ CurS y b A cc l m e' ∧ (e = 0 → Outc (bandN k (l.drop n)) [] vs e' (l.drop m)) ∧ (e ≠ 0 → vs = [] ∧ e' = e) ∧ x.grownBy y (some b)
theorem bandN_out {k : Int} (h : k < 0 ∨ 16777216 < k) (r : List UInt8) : bandN k r = .error 1 := if_pos h
theorem bandN_in {k : Int} (h : ¬ (k < 0 ∨ 16777216 < k)) (r : List UInt8) : bandN k r = bandR k.toNat r := if_neg h
section
variable {x : World} {b : Nat} {A : Option Addr} {cc : Nat} {l : List UInt8} {n : Nat} {e : Int}
set_option maxHeartbeats 8000000 in
set_option maxRecDepth 100000 in
theorem bread_any (h : CurS x b A cc l n e) (k : Int) (hk : I64 k) (hl : l.length ≤ 100000) :
    Calls Try.prog 13 #[.pointer (some ⟨b, 0, none⟩), .int .i64 k] x (BandRes b A cc l n e k x) := by
  have H0 := Lib.hid h
  have hnl := h.le
  unfold I64 at hk
  by_cases hr : k < 0 ∨ 16777216 < k
  · have HFl := Lib.hid (cfail_any 1 h)
    have hn1 : fe e 1 ≠ 0 := by unfold fe; split <;> omega
    have hn2 := Lib.hid (show (e = 0 → fe e 1 = 1) ∧ (e ≠ 0 → fe e 1 = e) from ⟨fun h => by unfold fe; rw [if_pos h], fun h => by unfold fe; rw [if_neg h]⟩)
    have hfin := Lib.hid (bandN_out hr (l.drop n))
    have q9 : (fe e 1 != 0) = true := by simpa using hn1
    have HN1 := Lib.hid hn1
    clear h hn1
    have hcase : decide (k < 0) = true ∨ (decide (k < 0) = false ∧ decide (16777216 < k) = true) := by
      rcases hr with h | h
      · exact .inl (decide_eq_true h)
      · exact .inr ⟨decide_eq_false (by omega), decide_eq_true h⟩
    clear hr
    generalize fe e 1 = e1 at *
    rcases hcase with q1 | ⟨q1, q2⟩
    all_goals
      go_enter Try.func13, Try.ntmps13
      go_wp2_with fail
      refine HFl.out.mono ?_
      rintro ex y ⟨rfl, hc1, hg1⟩
      have HB := Lib.hid (cbig_bad hc1 HN1.out)
      have HE := Lib.hid (cerr_any hc1)
      have HC := Lib.hid hc1
      have HG := Lib.hid hg1
      clear hc1 hg1 HFl
      go_wp2_with fail
      refine HB.out.mono ?_
      rintro ex z ⟨rfl, ez⟩
      have ez := ez.symm
      subst ez
      go_wp2_with fail
      refine HE.out.mono ?_
      rintro ex z ⟨rfl, ez⟩
      have ez := ez.symm
      subst ez
      go_wp2_with fail
      go_ret
      exact ⟨_, [], n, e1, rfl, IRead.nil _ _, HC.out, fun h0 => by rw [hfin.out, hn2.out.1 h0]; exact ⟨rfl, by decide, rfl⟩, fun h0 => ⟨rfl, hn2.out.2 h0⟩, HG.out⟩
  · have q1 : decide (k < 0) = false := decide_eq_false (by omega)
    have q2 : decide (16777216 < k) = false := decide_eq_false (by omega)
    obtain ⟨j, rfl⟩ : ∃ j : Nat, k = (j : Int) := ⟨k.toNat, by omega⟩
    have hbn := Lib.hid (show ∀ r, bandN (j : Int) r = bandR j r from fun r => bandN_in hr r)
    clear hr
    by_cases he : e = 0
    · subst he
      by_cases hend : n < l.length
      · obtain ⟨a, ha⟩ : ∃ a, l[n]? = some a := ⟨_, List.getElem?_eq_getElem hend⟩
        have HB := Lib.hid (cbig_ok h ha)
        have hab := a.toNat_lt
        have hdr := Lib.hid (drop_atI ha)
        clear h ha
        go_enter Try.func13, Try.ntmps13
        go_wp2_with fail
        refine HB.out.mono ?_
        rintro ex z ⟨rfl, hc1, hg1⟩
        have HE := Lib.hid (cerr_any hc1)
        have HC1 := Lib.hid hc1
        have HG1 := Lib.hid hg1
        clear hc1 hg1 HB
        go_wp2_with fail
        refine HE.out.mono ?_
        rintro ex z2 ⟨rfl, ez⟩
        have ez := ez.symm
        subst ez
        clear HE
        by_cases h255 : a = 255
        · have q3 : ((a.toNat : Int) == 255) = true := by rw [h255]; rfl
          have hfin := Lib.hid (show bandN (j : Int) (l.drop n) = joinR j (l.drop (n + 1)) by rw [hbn.out, hdr.out, h255]; exact bandR_join _ _)
          have HJ := Lib.hid (joined_any HC1.out j (by omega) hl)
          clear h255
          go_wp2_with fail
          refine HJ.out.mono ?_
          rintro ex z3 ⟨u, vs, m, e', rfl, hr, hc2, ho, hg2⟩
          have HR := Lib.hid (hr.lower HG1.out.size)
          have HC := Lib.hid hc2
          have HO := Lib.hid ho
          have HG := Lib.hid (grownBy_trans HG1.out hg2 (.inl rfl))
          clear hr hc2 ho hg2 HJ
          go_wp2_with fail
          go_ret
          exact ⟨u, vs, m, e', rfl, HR.out, HC.out, fun _ => by rw [hfin.out]; exact HO.out, fun h => absurd rfl h, HG.out⟩
        · have hne : a.toNat ≠ 255 := fun e => h255 (UInt8.toNat_inj.1 (by rw [e]; rfl))
          have q3 : ((a.toNat : Int) == 255) = false := by simp; omega
          have hfin := Lib.hid (show bandN (j : Int) (l.drop n) = plainR a.toNat j (l.drop (n + 1)) by rw [hbn.out, hdr.out]; exact bandR_cons h255 _)
          have HJ := Lib.hid (bplain_any HC1.out a.toNat j (by omega) (by omega))
          clear h255 hne
          go_wp2_with fail
          refine HJ.out.mono ?_
          rintro ex z3 ⟨u, vs, m, e', rfl, hr, hc2, ho, hg2⟩
          have HR := Lib.hid ((IRead.of hr).lower HG1.out.size)
          have HC := Lib.hid hc2
          have HO := Lib.hid ho
          have HG := Lib.hid (grownBy_trans HG1.out hg2 (.inl rfl))
          clear hr hc2 ho hg2 HJ
          go_wp2_with fail
          go_ret
          exact ⟨u, vs, m, e', rfl, HR.out, HC.out, fun _ => by rw [hfin.out]; exact HO.out, fun h => absurd rfl h, HG.out⟩
      · have HB := Lib.hid (cbig_end h (by omega))
        have hfin := Lib.hid (show bandN (j : Int) (l.drop n) = .error 6 by rw [hbn.out, List.drop_of_length_le (by omega)]; rfl)
        clear h
        go_enter Try.func13, Try.ntmps13
        go_wp2_with fail
        refine HB.out.mono ?_
        rintro ex z ⟨rfl, hc1, hg1⟩
        have HE := Lib.hid (cerr_any hc1)
        have HC1 := Lib.hid hc1
        have HG1 := Lib.hid hg1
        clear hc1 hg1 HB
        go_wp2_with fail
        refine HE.out.mono ?_
        rintro ex z2 ⟨rfl, ez⟩
        have ez := ez.symm
        subst ez
        go_wp2_with fail
        go_ret
        exact ⟨_, [], _, 6, rfl, IRead.nil _ _, HC1.out, fun _ => outc_error hfin.out (by decide), fun h => absurd rfl h, HG1.out⟩
    · have HB := Lib.hid (cbig_bad h he)
      have HE := Lib.hid (cerr_any h)
      have q : (e != 0) = true := by simpa using he
      have HEN := Lib.hid he
      clear h he
      go_enter Try.func13, Try.ntmps13
      go_wp2_with fail
      refine HB.out.mono ?_
      rintro ex z ⟨rfl, ez⟩
      have ez := ez.symm
      subst ez
      go_wp2_with fail
      refine HE.out.mono ?_
      rintro ex z2 ⟨rfl, ez⟩
      have ez := ez.symm
      subst ez
      go_wp2_with fail
      go_ret
      exact ⟨_, [], n, e, rfl, IRead.nil _ _, H0.out, fun h => absurd h HEN.out, fun _ => ⟨rfl, rfl⟩, World.grownBy.refl _ _⟩
end
end Go.Proofs.Ytbdkoagagcemcaa
