/- blocks.Stored of bytes that are read. -/
import Derived.Test.YtjbbhfloomejoaaWrC
namespace Go.Proofs.Ytjbbhfloomejoaa
open Go.RowKit
/-- Behind these bytes, from L bits on. -/
def wbs (V L : Nat) (l : List UInt8) : Nat × Nat := l.foldl (fun s c => (wv s.1 s.2 c.toNat 8, s.2 + 8)) (V, L)
theorem wbs_next {V L : Nat} {l : List UInt8} {i : Nat} {c : UInt8} (h : l[i]? = some c) : wbs V L (l.take (i + 1)) = (wv (wbs V L (l.take i)).1 (wbs V L (l.take i)).2 c.toNat 8, (wbs V L (l.take i)).2 + 8) := by
  unfold wbs
  rw [take_next h, List.foldl_append]
  rfl
theorem wbs_len (V L : Nat) (l : List UInt8) : (wbs V L l).2 = L + 8 * l.length := by
  suffices H : ∀ (l : List UInt8) (s : Nat × Nat), (l.foldl (fun s c => (wv s.1 s.2 c.toNat 8, s.2 + 8)) s).2 = s.2 + 8 * l.length from H l (V, L)
  intro l
  induction l with
  | nil => intro s; rfl
  | cons c l ih =>
    intro s
    rw [List.foldl_cons, ih, List.length_cons]
    show s.2 + 8 + 8 * l.length = _
    omega
/-- A stored block, behind V of L bits: where its bytes begin, its head, all of it. -/
def St.at_ (L : Nat) : Nat := 8 * ((L + 3 + 7) / 8)
def St.head (V L : Nat) (last : Bool) (n : Nat) : Nat :=
  wv (wv (wv (wv V L (if last then 1 else 0) 1) (L + 1) 0 2) (St.at_ L) n 16) (St.at_ L + 16) (4294967295 - n) 16
def St.all (V L : Nat) (last : Bool) (l : List UInt8) : Nat × Nat := wbs (St.head V L last l.length) (St.at_ L + 32) l
/-- Bytes that are read lie apart from a writer's blocks. -/
def ApartW (A : Option Addr) (l : List UInt8) (b : Nat) (o : Option Nat) : Prop := 0 < l.length → ∀ g s, A = some ⟨g, s, none⟩ → g ≠ b ∧ some g ≠ o
theorem BAt.frm {x y : World} {A : Option Addr} {c : Nat} {l : List UInt8} {b : Nat} {o o' : Option Nat} (h : BAt x A c l) (ha : ApartW A l b o) (k : WFrm x y b o o') : BAt y A c l ∧ ApartW A l b o' := by
  obtain ⟨⟨_, _, _, k4, k5⟩, k6⟩ := k
  refine ⟨⟨h.1, fun hp => ?_⟩, fun hp g s e => ?_⟩
  · obtain ⟨g, s, e, hg, hc⟩ := h.2 hp
    obtain ⟨a1, a2⟩ := ha hp g s e
    exact ⟨g, s, e, Nat.lt_of_lt_of_le hg k4, fun j v hv => (World.cell?_of_block (k5 g hg a1 a2)).trans (hc j v hv)⟩
  · obtain ⟨a1, a2⟩ := ha hp g s e
    obtain ⟨g', s', e', hg, _⟩ := h.2 hp
    rw [e] at e'
    cases e'
    refine ⟨a1, fun e2 => ?_⟩
    rcases k6 with k6 | ⟨q, hq, k6⟩
    · exact a2 (e2.trans k6)
    · rw [k6] at e2; cases e2; omega
theorem u32_not (n : Nat) (h : n < 4294967296) : bits .xor .u32 IntKind.u32.max (n : Int) = ((4294967295 - n : Nat) : Int) := by
  have e : BitVec.ofInt 32 IntKind.u32.max = BitVec.allOnes 32 := by decide
  have k : (BitVec.ofInt 32 IntKind.u32.max ^^^ BitVec.ofInt 32 (n : Int)).toNat = 4294967295 - n := by
    rw [e, BitVec.xor_comm, BitVec.xor_allOnes, BitVec.toNat_not, BitVec.ofInt_natCast, BitVec.toNat_ofNat, Nat.mod_eq_of_lt (by omega)]
  show IntKind.u32.wrap ((BitVec.ofInt 32 IntKind.u32.max ^^^ BitVec.ofInt 32 (n : Int)).toNat : Nat) = _
  rw [k, IntKind.wrap_u32]
  omega
theorem stored_long (b n c : Nat) (A : Option Addr) (hn : 65535 < n) (hm : n ≤ 100000000000) (last : Bool) (w : World) : Calls Try.prog 9 #[.pointer (some ⟨b, 0, none⟩), .slice A n c, .bool last] w fun e w' => e = .returned (.int .i64 3) ∧ w' = w := by
  have h1 : (n : Int) > 65535 := by omega
  go_enter Try.func9, Try.ntmps9
  go_wp2_with fail
  go_ret
  exact ⟨rfl, rfl⟩
set_option maxHeartbeats 4000000 in
set_option maxRecDepth 100000 in
theorem stored_any (A : Option Addr) (c : Nat) (l : List UInt8) (last : Bool) (x : World) (ha : BAt x A c l) (hl : l.length ≤ 65535) (base b : Nat) (u : Value) (V L : Nat) (h : Wr x base b u V L) (hL : L ≤ 1000000000) (hap : ApartW A l b u.ownBlock) :
    Calls Try.prog 9 #[.pointer (some ⟨b, 0, none⟩), .slice A l.length c, .bool last] x fun e y => e = .returned (.int .i64 0) ∧ ∃ u', Wr y base b u' (St.all V L last l).1 (St.at_ L + 32 + 8 * l.length) ∧ WFrm x y b u.ownBlock u'.ownBlock := by
  have C1 := Lib.hid (head_any 0 last (by decide) x base b u V L h (by omega))
  have HA := Lib.hid ha
  have HP := Lib.hid hap
  have q1 : ¬ ((l.length : Int) > 65535) := by omega
  clear h ha hap
  go_enter Try.func9, Try.ntmps9
  go_wp2_with fail
  refine C1.out.mono ?_
  rintro e x1 ⟨rfl, u1, h1, f1⟩
  obtain ⟨a1, p1⟩ := HA.out.frm HP.out f1
  have HA1 := Lib.hid a1
  have HP1 := Lib.hid p1
  have F1 := Lib.hid f1
  have C2 := Lib.hid (walign_any x1 base b u1 _ _ h1 (by omega))
  clear h1 f1 a1 p1 C1 HA HP
  go_wp2_with fail
  refine C2.out.mono ?_
  rintro e x2 ⟨rfl, u2, h2, f2⟩
  obtain ⟨a2, p2⟩ := HA1.out.frm HP1.out f2
  have HA2 := Lib.hid a2
  have HP2 := Lib.hid p2
  have F2 := Lib.hid (F1.out.trans f2)
  have C3 := Lib.hid (wput_any l.length 16 (by omega) (by decide) x2 base b u2 _ _ h2 (by omega))
  clear h2 f2 a2 p2 C2 HA1 HP1 F1
  go_wp2_with fail
  refine C3.out.mono ?_
  rintro e x3 ⟨rfl, u3, h3, f3⟩
  obtain ⟨a3, p3⟩ := HA2.out.frm HP2.out f3
  have HA3 := Lib.hid a3
  have HP3 := Lib.hid p3
  have F3 := Lib.hid (F2.out.trans f3)
  have C4 := Lib.hid (wput_any (4294967295 - l.length) 16 (by omega) (by decide) x3 base b u3 _ _ h3 (by omega))
  clear h3 f3 a3 p3 C3 HA2 HP2 F2
  have UN := Lib.hid (u32_not l.length (by omega))
  go_wp2_with fail
  rw [UN.out]
  refine C4.out.mono ?_
  rintro e x4 ⟨rfl, u4, h4, f4⟩
  obtain ⟨a4, p4⟩ := HA3.out.frm HP3.out f4
  have HA4 := Lib.hid a4
  have HP4 := Lib.hid p4
  have F4 := Lib.hid (F3.out.trans f4)
  have H4 := Lib.hid (show Wr x4 base b u4 (St.head V L last l.length) (St.at_ L + 32) from h4)
  clear h4 f4 a4 p4 C4 HA3 HP3 F3
  generalize bits .xor .u32 IntKind.u32.max (l.length : Int) = z1
  go_upto_region 10 with fail
  have hsl : St.at_ L ≤ 2000000000 := by unfold St.at_; omega
  obtain ⟨V4, HV4⟩ : ∃ V4, Hid (V4 = St.head V L last l.length) := ⟨_, Lib.hid rfl⟩
  obtain ⟨L4, HL4⟩ : ∃ L4, Hid (L4 = St.at_ L) := ⟨_, Lib.hid rfl⟩
  rw [← HV4.out, ← HL4.out] at H4
  rw [← HL4.out] at hsl
  have SA := Lib.hid (show St.all V L last l = wbs V4 (L4 + 32) l by rw [HV4.out, HL4.out]; rfl)
  go_loopw [34] (fun s34 wr => ∃ (i : Nat) (u' : Value), i ≤ l.length ∧ s34 = .int .i64 (i : Nat) ∧ Wr wr base b u' (wbs V4 (L4 + 32) (l.take i)).1 (L4 + 32 + 8 * i) ∧ WFrm x wr b u.ownBlock u'.ownBlock ∧ BAt wr A c l ∧ ApartW A l b u'.ownBlock) (fun s34 _ => l.length - (intOf s34).toNat)
  case atStart => exact ⟨0, u4, Nat.zero_le _, rfl, H4.out, F4.out, HA4.out, HP4.out⟩
  case round =>
    obtain ⟨i, u', hi, rfl, hW, hF, hA, hP⟩ := hrel
    have HW := Lib.hid hW
    have HF := Lib.hid hF
    have HA5 := Lib.hid hA
    have HP5 := Lib.hid hP
    clear H4 F4 HA4 HP4 hW hF hP
    by_cases h1 : i < l.length
    · as_aux_lemma =>
      obtain ⟨g, o, y, rfl, hgz, hx, hc⟩ := hA.at_ h1
      have q2 : ¬ ((i : Int) < 0) := by omega
      have WN := Lib.hid (wbs_next (V := V4) (L := L4 + 32) hx)
      have C := Lib.hid (wput_any y.toNat 8 (by have := y.toNat_lt; omega) (by decide) wr base b u' _ _ HW.out (by omega))
      have WL := Lib.hid (show (wbs V4 (L4 + 32) (l.take i)).2 = L4 + 32 + 8 * i by rw [wbs_len, List.length_take, Nat.min_eq_left hi])
      have hy := y.toNat_lt
      clear hA hx
      go_wp2_with fail
      refine C.out.mono ?_
      rintro e x5 ⟨rfl, u5, h5, f5⟩
      obtain ⟨a5, p5⟩ := HA5.out.frm HP5.out f5
      have HA6 := Lib.hid a5
      have HP6 := Lib.hid p5
      have HF6 := Lib.hid (HF.out.trans f5)
      have HW6 := Lib.hid h5
      clear h5 f5 a5 p5 C HA5 HP5 HF HW
      go_wp2_with fail
      refine ⟨⟨i + 1, u5, h1, rfl, ?_, HF6.out, HA6.out, HP6.out⟩, next_less h1⟩
      rw [WN.out, WL.out]
      exact HW6.out
    · as_aux_lemma =>
      have hie : i = l.length := by omega
      subst hie
      have HW6 := HW.out
      rw [List.take_length] at HW6
      have HW7 := Lib.hid HW6
      clear HW6 HW hA
      go_wp2_with fail
      go_ret
      rw [SA.out, ← HL4.out]
      exact ⟨rfl, u', HW7.out, HF.out⟩
end Go.Proofs.Ytjbbhfloomejoaa
