/- Joined texts: BdF, PpMapD, PpWalksI, PpWalksJ, PpWalksG, PpWalksH, PpWalksK. -/
import Derived.Test.YtbdkoagagcemcaaPk4
import Derived.Test.YtbdkoagagcemcaaPk6
import Derived.Lib.SliceRun
import Derived.Test.YtbdkoagagcemcaaPk3
import Derived.Test.YtbdkoagagcemcaaPk2
import Derived.Lib.SlMapFilter
import Derived.Lib.SlKeysI
import Derived.WideAt
import Derived.OpenShut
import Derived.Shelf.SlSortCmp.Whole1
import Derived.Shelf.SlMaps.DeleteFunc
import Derived.Shelf.SlIterI.Collect
import Derived.Shelf.SlSortCmp.NoneTotal
/- The walk of layer 26: a row in the coding that is shortest. -/
namespace Go.Proofs.Ytbdkoagagcemcaa
open Go.RowKit Pp

theorem freshB1 {x : World} {B base : Nat} {y : Int} (h : x.heap[B]? = some (.cells #[.int .u8 y] 5 (0, 0))) (hb : base ≤ B) (a : UInt8) (ha : y = (a.toNat : Int)) : BRow x base 5 (.slice (some ⟨B, 0, none⟩) 1 1) [a] := by
  subst ha
  exact ⟨rfl, .inr ⟨B, 1, _, rfl, hb, h, Nat.le_refl _, by unfold maxLen; omega, rfl, rfl⟩⟩
/-- A row that is none, or the best so far. -/
def BestIs (w : World) (base : Nat) (v : Value) : Option (List UInt8) → Prop
  | none => v = .slice none 0 0
  | some s => ∃ g c, v = .slice (some ⟨g, 0, none⟩) s.length c ∧ BRow w base 5 v s
theorem BestIs.grow {w w1 : World} {base : Nat} {v : Value} {o : Option (List UInt8)} (h : BestIs w base v o) (k : Below w.heap.size w w1) : BestIs w1 base v o := by
  cases o with
  | none => exact h
  | some s =>
    obtain ⟨g, c, h1, h2⟩ := h
    exact ⟨g, c, h1, h2.grow k⟩
theorem bestIs_of {w : World} {base : Nat} {v : Value} {s : List UInt8} (h : BRow w base 5 v s) (hs : 0 < s.length) : BestIs w base v (some s) := by
  rcases h.2 with ⟨_, hn⟩ | ⟨g, cap, cur, e, _⟩
  · omega
  · exact ⟨g, cap, e, h⟩
theorem brow_base {w : World} {base b' : Nat} {v : Value} {l : List UInt8} (h : BRow w base 5 v l) (hb : b' ≤ base) : BRow w b' 5 v l := by
  refine ⟨h.1, ?_⟩
  rcases h.2 with h2 | ⟨g, cap, cur, h2, h3, h4⟩
  · exact .inl h2
  · exact .inr ⟨g, cap, cur, h2, Nat.le_trans hb h3, h4⟩
theorem row_lenB (c : Cod) (hc : c.ok) : ∀ (l : List Int) (last : Int) (b : List UInt8), c.row last l = some b → b.length ≤ 5 * l.length
  | [], last, b, h => by
    simp only [Cod.row, Option.some.injEq] at h
    subst h
    simp
  | v :: l, last, b, h => by
    unfold Cod.row at h
    split at h
    · cases hr : c.row v l with
      | none => rw [hr] at h; cases h
      | some b' =>
        rw [hr] at h
        simp only [Option.map_some, Option.some.injEq] at h
        subst h
        have h1 := row_lenB c hc l v b' hr
        have h2 := putU_le5 hc (plainI c.s (c.diff last v)).toNat
        rw [List.length_append, List.length_cons]
        omega
    · cases h
theorem shortTo_succ {l : List Int} {i : Nat} {c : Cod} (hc : cods[i]? = some c) : shortTo l (i + 1) = shortIn l (shortTo l i) i c := by
  conv => lhs; unfold shortTo
  rw [hc]
theorem shortIn_none {l : List Int} {best : Option (List UInt8)} {i : Nat} {c : Cod} (h : c.row 0 l = none) : shortIn l best i c = best := by unfold shortIn; rw [h]
theorem shortIn_first {l : List Int} {i : Nat} {c : Cod} {b : List UInt8} (h : c.row 0 l = some b) : shortIn l none i c = some (UInt8.ofNat i :: b) := by unfold shortIn; rw [h]
theorem shortIn_more {l : List Int} {i : Nat} {c : Cod} {b s : List UInt8} (h : c.row 0 l = some b) : shortIn l (some s) i c = if b.length + 1 < s.length then some (UInt8.ofNat i :: b) else some s := by unfold shortIn; rw [h]
set_option maxHeartbeats 8000000 in
set_option maxRecDepth 100000 in
theorem shortest_any (A : Option Addr) (cc : Nat) (l : List Int) (w : World) (hx : Ints w A cc l) (hI : ∀ v ∈ l, I64 v) (hl : l.length ≤ 10000000) :
    Calls Try.prog 28 #[.slice A l.length cc] w (RowRes (short l) w) := by
  have HX := Lib.hid hx
  have HRw := Lib.hid (fun c (hc : Cod.ok c) w hx => row_any c hc A cc l w hx hI hl)
  unfold Cod.val at HRw
  have qn : ∀ (w : World) (a : Option Addr) (n c : Nat), (binOp .eql 23 (.slice a n c) (.slice none 0 0)).run Try.prog w = .ok (.bool a.isNone) w := fun w a n c => Lib.run_eql_slice_nil w _ _ _ _ _ _ _ Try.underlying23
  clear hx hI
  go_enter Try.func28, Try.ntmps28
  go_wp2_with fail
  refine (codings_any w).mono ?_
  rintro ex y ⟨rfl, hcd, hb1⟩
  have HCD := Lib.hid hcd
  have HB := Lib.hid hb1
  clear hcd hb1
  go_wp2_with fail
  go_loopw [4, 11] (fun v t wr => ∃ i : Nat, i ≤ 15 ∧ t = .int .i64 i ∧ BestIs wr w.heap.size v (shortTo l i) ∧ CodsAt wr w.heap.size ∧ Below w.heap.size w wr) (fun _ t _ => 15 - (intOf t).toNat)
  case atStart => exact ⟨0, by omega, rfl, rfl, HCD.out, HB.out⟩
  case round =>
    obtain ⟨i, hi, rfl, hbest, hcd, hB⟩ := hrel
    have HBS := Lib.hid hbest
    have HCD := Lib.hid hcd
    have HW := Lib.hid hB
    clear HB
    by_cases h1 : i < 15
    · obtain ⟨c, hc⟩ : ∃ c, cods[i]? = some c := ⟨_, List.getElem?_eq_getElem (show i < cods.length from h1)⟩
      have hok := cods_ok c (List.mem_of_getElem? hc)
      obtain ⟨d0, d1, d2, d3⟩ := hcd.at_ hc
      have hz := hcd.lt
      have hst := Lib.hid (shortTo_succ (l := l) hc)
      have k1 := Lib.hid ((Below.refl wr.heap.size wr).alloc (Nat.le_refl _) (.cells #[.int .i64 c.b, .int .i64 c.h, .int .i64 c.s, .int .i64 c.d] 38))
      have p1 : decide ((i : Int) < 15) = true := decide_eq_true (by omega)
      have HOK := Lib.hid hok
      clear hc hok hbest hcd hB
      go_wp2_with fail
      refine (HRw.out c HOK.out _ ((HX.out.grow HW.out).grow k1.out)).mono ?_
      intro ex y1 hres
      cases hrow : c.row 0 l with
      | none =>
        rw [hrow] at hres
        obtain ⟨rfl, hb2⟩ := hres
        have kk := k1.out.trans (hb2.mono k1.out.size)
        have hfin := Lib.hid (hst.out.trans (shortIn_none hrow))
        have HBS2 := Lib.hid (HBS.out.grow kk)
        have HCD2 := Lib.hid (HCD.out.grow kk)
        have HW2 := Lib.hid (Below.after' HW.out kk (Nat.le_refl _))
        clear hb2 kk hrow d0 d1 d2 d3 hz HRw
        go_wp2_with fail
        go_roundw
        case rel => exact ⟨i + 1, by omega, by go_num, by rw [hfin.out]; exact HBS2.out, HCD2.out, HW2.out⟩
        case measure => simp [intOf]; omega
      | some bb =>
        rw [hrow] at hres
        obtain ⟨u, rfl, hr2, hb2⟩ := hres
        have hbl := row_lenB c HOK.out l 0 bb hrow
        obtain ⟨A2, c2, rfl, hba⟩ := hr2.at_
        have kk := k1.out.trans (hb2.mono k1.out.size)
        have HBS2 := HBS.out.grow kk
        have HCD2 := Lib.hid (HCD.out.grow kk)
        have HW2 := Lib.hid (Below.after' HW.out kk (Nat.le_refl _))
        have HBA := Lib.hid hba
        clear hb2 kk d0 d1 d2 d3 hz HRw hba hr2
        cases hs : shortTo l i with
        | none =>
          rw [hs] at HBS2
          obtain rfl := HBS2
          have hf0 := hst.out
          rw [hs, shortIn_first hrow] at hf0
          have hfin := Lib.hid hf0
          clear hs hrow hst HBS hf0
          have hby := Lib.hid (show ((i : Int)) = ((UInt8.ofNat i).toNat : Int) by rw [ofNat_lt (by omega)])
          go_wp2_with (at_builtin; refine wpList_appBy rfl _ _ _ rfl w.heap.size _ [UInt8.ofNat i] bb rfl (freshB1 (heap_alloc_new _ _) (Nat.le_trans HW2.out.size (Nat.le_refl _)) _ hby.out) _ rfl (HBA.out.grow ((Below.refl _ _).alloc (Nat.le_refl _) _)).src (by simp; omega) (Nat.le_trans HW2.out.size (by simp)) ?_; intro v3 w3 hr3 hp3; have HR3 := Lib.hid hr3; have HB3 := Lib.hid (HW2.out.trans ((((Below.refl _ _).alloc (Nat.le_refl _) (.cells #[.int .u8 (i : Int)] 5)).trans (hp3.below (by simp) (fun k hk => by cases hk; simp))).mono HW2.out.size)); have HCD3 := Lib.hid (HCD2.out.grow (((Below.refl _ _).alloc (Nat.le_refl _) (.cells #[.int .u8 (i : Int)] 5)).trans (hp3.below (by simp) (fun k hk => by cases hk; simp)))); clear hr3 hp3)
          go_roundw
          case rel => exact ⟨i + 1, by omega, by go_num, by rw [hfin.out]; exact bestIs_of HR3.out (by simp), HCD3.out, HB3.out⟩
          case measure => simp [intOf]; omega
        | some s =>
          rw [hs] at HBS2
          obtain ⟨g, c9, rfl, hrs⟩ := HBS2
          have hfin0 := hst.out
          rw [hs, shortIn_more hrow] at hfin0
          by_cases hlt : bb.length + 1 < s.length
          · have p2 : decide ((bb.length : Int) + 1 < (s.length : Int)) = true := decide_eq_true (by omega)
            have p3 : decide (bb.length + 1 < s.length) = true := decide_eq_true hlt
            have hfin := Lib.hid (hfin0.trans (if_pos hlt))
            clear hs hrow hst HBS hfin0 hrs
            have hby := Lib.hid (show ((i : Int)) = ((UInt8.ofNat i).toNat : Int) by rw [ofNat_lt (by omega)])
            go_wp2_with (at_builtin; refine wpList_appBy rfl _ _ _ rfl w.heap.size _ [UInt8.ofNat i] bb rfl (freshB1 (heap_alloc_new _ _) (Nat.le_trans HW2.out.size (Nat.le_refl _)) _ hby.out) _ rfl (HBA.out.grow ((Below.refl _ _).alloc (Nat.le_refl _) _)).src (by simp; omega) (Nat.le_trans HW2.out.size (by simp)) ?_; intro v3 w3 hr3 hp3; have HR3 := Lib.hid hr3; have HB3 := Lib.hid (HW2.out.trans ((((Below.refl _ _).alloc (Nat.le_refl _) (.cells #[.int .u8 (i : Int)] 5)).trans (hp3.below (by simp) (fun k hk => by cases hk; simp))).mono HW2.out.size)); have HCD3 := Lib.hid (HCD2.out.grow (((Below.refl _ _).alloc (Nat.le_refl _) (.cells #[.int .u8 (i : Int)] 5)).trans (hp3.below (by simp) (fun k hk => by cases hk; simp)))); clear hr3 hp3)
            go_roundw
            case rel => exact ⟨i + 1, by omega, by go_num, by rw [hfin.out]; exact bestIs_of HR3.out (by simp), HCD3.out, HB3.out⟩
            case measure => simp [intOf]; omega
          · have p2 : decide ((bb.length : Int) + 1 < (s.length : Int)) = false := decide_eq_false (by omega)
            have p3 : decide (bb.length + 1 < s.length) = false := decide_eq_false hlt
            have hfin := Lib.hid (hfin0.trans (if_neg hlt))
            have HRS := Lib.hid hrs
            clear hs hrow hst HBS hfin0 hrs
            go_wp2_with fail
            go_roundw
            case rel => exact ⟨i + 1, by omega, by go_num, by rw [hfin.out]; exact ⟨g, c9, rfl, HRS.out⟩, HCD2.out, HW2.out⟩
            case measure => simp [intOf]; omega
    · have hii : i = 15 := by omega
      subst hii
      have p1 : decide ((15 : Int) < 15) = false := by decide
      clear hcd hB hbest
      cases hs : shortTo l 15 with
      | none =>
        have hbs := HBS.out
        rw [hs] at hbs
        obtain rfl := hbs
        have hfin := Lib.hid (show short l = none from hs)
        clear hs HBS
        go_wp2_with fail
        go_ret2
        exact rowRes_none hfin.out rfl HW.out
      | some s =>
        have hbs := HBS.out
        rw [hs] at hbs
        obtain ⟨g, c9, rfl, hrs⟩ := hbs
        have hfin := Lib.hid (show short l = some s from hs)
        have HRS := Lib.hid hrs
        clear hs HBS hrs
        go_wp2_with fail
        go_ret2
        exact rowRes_some hfin.out rfl HRS.out HW.out
end Go.Proofs.Ytbdkoagagcemcaa

/- Maps of ints by ints: entries struck, keys collected. -/
namespace Go.Proofs.Ytbdkoagagcemcaa.Pp
open Go.RowKit Go.Maps

/-- What says that an entry goes: its number is under 2. -/
def under2 (_ : Lit) (d : DataW Unit) : Bool :=
  match d with
  | .lit (.int .i64 v) => decide (v < 2)
  | _ => false
/-- The entries under 2 are gone. -/
theorem MapIs.struck {w : World} {b n : Nat} {D : DataW Unit} {f : Int → Int} (hO : OMap w b n D) (h : MapIs D f) : MapIs (Lib.deleteFuncD under2 D) (fun k => if f k < 2 then 0 else f k) := by
  obtain ⟨es, rfl, hap, hkl⟩ := hO.entries lawI
  have hfind : ∀ k, f k ≠ 0 → ∃ p ∈ es, p.1 = .int .i64 k := fun k hk => by
    have h1 := h.2 k
    rw [decide_eq_true hk, has_eq, List.any_eq_true] at h1
    obtain ⟨p, hp, hs⟩ := h1
    exact ⟨p, hp, WideAt.sameKey_eq hs⟩
  have hval : ∀ p ∈ es, ∀ k, p.1 = .int .i64 k → p.2 = .lit (.int .i64 (f k)) ∧ f k ≠ 0 := fun p hp k hk => by
    have hm : ((.int .i64 k : Lit), p.2) ∈ es := by rw [← hk]; exact hp
    refine ⟨(WideAt.atKey_mem (.lit (.int .i64 0)) (show WideAt.IsKeyLit (.int .i64 k) from trivial) hap hm).symm.trans (h.1 k), fun h0 => ?_⟩
    have h1 := h.2 k
    rw [h0] at h1
    have h2 : Maps.has (.map es) (.int .i64 k) = true := by
      rw [has_eq, List.any_eq_true]
      exact ⟨_, hm, WideAt.sameKey_self (show WideAt.IsKeyLit (.int .i64 k) from trivial)⟩
    rw [h2] at h1
    simp at h1
  have hpd : ∀ p ∈ es, ∀ k, p.1 = .int .i64 k → under2 p.1 p.2 = decide (f k < 2) := fun p hp k hk => by
    rw [(hval p hp k hk).1]; rfl
  have hno : ∀ k, f k < 2 → ∀ p ∈ es.filter (fun p => !under2 p.1 p.2), p.1 ≠ .int .i64 k := fun k hk p hp e => by
    obtain ⟨h1, h2⟩ := List.mem_filter.1 hp
    rw [hpd p h1 k e, decide_eq_true hk] at h2
    cases h2
  refine ⟨fun k => ?_, fun k => ?_⟩
  · show (DataW.map (es.filter fun p => !under2 p.1 p.2)).atKey _ _ = DataW.lit (Lit.int .i64 (if f k < 2 then 0 else f k))
    by_cases hk : f k < 2
    · rw [if_pos hk, WideAt.atKey_none _ (hno k hk)]
    · rw [if_neg hk]
      obtain ⟨p, hp, e⟩ := hfind k (by omega)
      have hv := (hval p hp k e).1
      have hm : ((.int .i64 k : Lit), (DataW.lit (.int .i64 (f k)) : DataW Unit)) ∈ es.filter (fun p => !under2 p.1 p.2) := by
        rw [← hv, ← e]
        exact List.mem_filter.2 ⟨hp, by rw [hpd p hp k e, decide_eq_false hk]; rfl⟩
      exact WideAt.atKey_mem (.lit (.int .i64 0)) (show WideAt.IsKeyLit (.int .i64 k) from trivial) (hap.filter _) hm
  · show Maps.has (DataW.map (es.filter fun p => !under2 p.1 p.2)) _ = decide ((if f k < 2 then 0 else f k) ≠ 0)
    by_cases hk : f k < 2
    · rw [if_pos hk, has_eq, List.any_eq_false.2 (fun p hp hs => hno k hk p hp (WideAt.sameKey_eq hs))]
      simp
    · rw [if_neg hk]
      obtain ⟨p, hp, e⟩ := hfind k (by omega)
      rw [has_eq, List.any_eq_true.2 ⟨p, List.mem_filter.2 ⟨hp, by rw [hpd p hp k e, decide_eq_false hk]; rfl⟩, by rw [e]; exact WideAt.sameKey_self (show WideAt.IsKeyLit (.int .i64 k) from trivial)⟩]
      symm
      exact decide_eq_true (by omega)
/-- The keys: each once, just those that have a number. -/
theorem MapIs.keys {w : World} {b n : Nat} {D : DataW Unit} {f : Int → Int} (hO : OMap w b n D) (h : MapIs D f) : (intKeys D).Nodup ∧ (∀ k, k ∈ intKeys D ↔ f k ≠ 0) ∧ (∀ k ∈ intKeys D, I64 k) ∧ (intKeys D).length = Maps.size D := by
  obtain ⟨es, rfl, hap, hkl⟩ := hO.entries lawI
  obtain ⟨es', hD', hko⟩ := hO.keysOf
  obtain rfl : es = es' := by simpa using hD'
  have hk : ∀ p ∈ es, ∃ x, p.1 = .int .i64 x ∧ I64 x := fun p hp => by
    obtain ⟨v, hv⟩ := hko p hp
    obtain ⟨x, _, hx, hwf⟩ := Maps.keyOf_i64 Try.underlying3 hv
    refine ⟨x, hx, ?_⟩
    exact bounds_i64 hwf
  refine ⟨?_, fun k => ?_, fun k hm => ?_, by simp [intKeys, Maps.size]⟩
  · show (es.map fun p => Go.intOf p.1).Nodup
    refine List.pairwise_map.2 (hap.imp_of_mem fun {p q} hp' hq' hne e => hne ?_)
    obtain ⟨a, ha, _⟩ := hk p hp'
    obtain ⟨c, hc, _⟩ := hk q hq'
    rw [ha, hc] at e ⊢
    exact congrArg _ e
  · show k ∈ (es.map fun p => Go.intOf p.1) ↔ _
    have h1 := h.2 k
    rw [has_eq] at h1
    rw [List.mem_map]
    constructor
    · rintro ⟨p, hp, rfl⟩
      obtain ⟨a, ha, _⟩ := hk p hp
      have h3 : (es.any fun q => q.1.sameKey (.int .i64 (Go.intOf p.1))) = true := List.any_eq_true.2 ⟨p, hp, by rw [ha]; exact WideAt.sameKey_self (show WideAt.IsKeyLit (.int .i64 a) from trivial)⟩
      rw [h3] at h1
      exact of_decide_eq_true h1.symm
    · intro h0
      rw [decide_eq_true h0] at h1
      obtain ⟨p, hp, hs⟩ := List.any_eq_true.1 h1
      exact ⟨p, hp, by rw [WideAt.sameKey_eq hs]; rfl⟩
  · obtain ⟨p, hp, rfl⟩ := List.mem_map.1 hm
    obtain ⟨a, ha, hI⟩ := hk p hp
    rw [ha]; exact hI
end Go.Proofs.Ytbdkoagagcemcaa.Pp
/- The walks of layer 25: the closures of the favorites. -/
namespace Go.Proofs.Ytbdkoagagcemcaa.Pp
open Go.RowKit Go.Maps

/-- The first that is not nought. -/
def Po.orr : List Int → Int
  | [] => 0
  | x :: xs => if x = 0 then Po.orr xs else x

set_option maxHeartbeats 2000000 in
theorem or_any (A : Option Addr) (c : Nat) (xs : List Int) (w : World) (hx : Ints w A c xs) (hn : xs.length ≤ 1000000) :
    Calls Try.prog 78 #[.slice A xs.length c] w fun e w' => e = .returned (.int .i64 (Po.orr xs)) ∧ w = w' := by
  have HX := Lib.hid hx
  clear hx
  go_enter Try.func78, Try.ntmps78
  go_wp2_with fail
  go_loop [8] (fun u => ∃ i : Nat, i ≤ xs.length ∧ u = .int .i64 i ∧ Po.orr xs = Po.orr (xs.drop i)) (fun u => xs.length - (Go.Proofs.intOf u).toNat)
  case atStart => exact ⟨0, Nat.zero_le _, rfl, rfl⟩
  case round =>
    obtain ⟨i, hil, rfl, hor⟩ := hrel
    by_cases h1 : i < xs.length
    · obtain ⟨g, o, x, rfl, hg, hxi, hcell⟩ := HX.out.at_ h1
      rw [drop_at hxi] at hor
      by_cases hx0 : x = 0
      · have q : (x != 0) = false := by simp [hx0]
        have hs := Lib.hid (hor.trans (if_pos hx0))
        clear hxi hor hx0
        go_wp2
        go_round
        case rel => exact ⟨i + 1, by omega, by go_num, hs.out⟩
        case measure => simp [Go.Proofs.intOf]; omega
      · have q : (x != 0) = true := by simp [hx0]
        have hs := Lib.hid (hor.trans (if_neg hx0))
        clear hxi hor hx0
        go_wp2
        go_ret
        exact ⟨by rw [hs.out]; rfl, rfl⟩
    · rw [List.drop_of_length_le (by omega)] at hor
      have hs := Lib.hid hor
      clear hor
      go_wp2
      go_ret
      exact ⟨by rw [hs.out]; rfl, rfl⟩

set_option maxHeartbeats 1000000 in
theorem del1_any (W : World) (key val : Value) (kl : Lit) (yd : DataW Unit) (yp : List MemPlace) (_hk : keyOf Try.prog 3 key = some kl) (hv : RI val = some (yd, yp)) :
    Calls Try.prog 74 #[key, val] W fun e w' => e = .returned (.bool (under2 kl yd)) ∧ W.grownBy w' none := by
  obtain ⟨a, rfl, hz, _⟩ := plainElem_int_inv Try.underlying3 hv
  injection hz with hz1 _
  subst hz1
  go_enter Try.func74, Try.ntmps74
  go_wp2
  go_ret
  exact ⟨rfl, World.grownBy.refl _ _⟩

/-- What the favorites are sorted by. -/
def Po.cf (f : Int → Int) (a b : Int) : Int := Po.orr [Lib.compareInt (f b) (f a), Lib.compareInt a b]

set_option maxHeartbeats 4000000 in
theorem cmp2_any (D : DataW Unit) (f : Int → Int) (b n B : Nat) (W : World) (x y : Int) (hO : OMap W b n D) (hM : MapIs D f) (hc : W.cell? ⟨B, 0, none⟩ = some (.map (some b))) (hx : I64 x) (hy : I64 y) :
    Calls Try.prog 77 #[.int .i64 x, .int .i64 y, .pointer (some ⟨B, 0, none⟩)] W fun e w' => e = .returned (.int .i64 (Po.cf f x y)) ∧ ∃ o, w' = W.alloc o := by
  have hl1 := look_run hO hM hx
  have hl2 := look_run hO hM hy
  have HC1 := Lib.hid (Try.cmp_Compare_int (f y) (f x) W)
  have HC2 := Lib.hid (Try.cmp_Compare_int x y W)
  generalize hr : Po.cf f x y = r
  unfold Po.cf at hr
  generalize Lib.compareInt (f y) (f x) = p at *
  generalize Lib.compareInt x y = q at *
  have HR := Lib.hid hr
  clear hO hM hr hx hy
  go_enter Try.func77, Try.ntmps77
  go_wp2_with fail
  refine HC1.out.mono ?_
  rintro e w' ⟨rfl, rfl⟩
  go_wp2_with fail
  refine HC2.out.mono ?_
  rintro e w' ⟨rfl, rfl⟩
  go_wp2_with fail
  have hor := or_any (some ⟨w'.heap.size, 0, none⟩) 2 [p, q] (w'.alloc (.cells #[.int .i64 p, .int .i64 q] 3)) ⟨by simp, fun _ => ⟨w'.heap.size, 0, rfl, by simp, fun j v hv => by
    match j, hv with
    | 0, hv => simp at hv; subst hv; simp
    | 1, hv => simp at hv; subst hv; simp
    | j + 2, hv => simp at hv⟩⟩ (by simp)
  change Calls _ _ #[.slice (some ⟨w'.heap.size, 0, none⟩) 2 2] _ _ at hor
  refine hor.mono ?_
  rintro e w1 ⟨rfl, rfl⟩
  go_wp2
  go_ret
  exact ⟨by rw [← HR.out]; rfl, _, rfl⟩
end Go.Proofs.Ytbdkoagagcemcaa.Pp
/- The walk of layer 25: the keys of a map, collected and sorted by a closure. -/
namespace Go.Proofs.Ytbdkoagagcemcaa.Pp
open Go.RowKit Go.Maps

abbrev encX (x : Int) : Value := .int .i64 (nx x)
theorem sort_block {w : World} {blk off n : Nat} {d : Array Int} {os : Array Obj} {k : Nat} (h1 : k ≠ blk) (h2 : k < w.heap.size) : (sortWorld encX w blk off n d os).heap[k]? = w.heap[k]? := by
  unfold sortWorld
  rw [Sort.heap_grow_old _ _ (by simpa using h2)]
  simp [Sort.putRow, Sort.mapBlock, Sort.ahead, Array.getElem?_modify, Ne.symm h1]
theorem sort_grown (w : World) (blk off n : Nat) (d : Array Int) (os : Array Obj) : w.grownBy (sortWorld encX w blk off n d os) (some blk) :=
  ⟨rfl, rfl, rfl, by unfold sortWorld; simp, fun _ hk hne => sort_block (fun e => hne (by rw [e])) hk⟩

theorem cf_lt (f : Int → Int) (a b : Int) : Po.cf f a b < 0 ↔ f b < f a ∨ (f a = f b ∧ a < b) := by
  unfold Po.cf Lib.compareInt
  simp only [Po.orr]
  by_cases h1 : f b < f a
  · simp [h1]
  · by_cases h2 : f a < f b
    · simp [h1, h2]; omega
    · have e : f a = f b := by omega
      by_cases h3 : a < b
      · simp [e, h3]
      · by_cases h4 : b < a
        · simp [e, h3, h4]
        · simp [e, h3, h4]
def cfX (f : Int → Int) (x y : Int) : Int := Po.cf f (nx x) (nx y)
theorem ltX (f : Int → Int) (x y : Int) : ltOf (cfX f) x y = decide (f (nx y) < f (nx x) ∨ (f (nx x) = f (nx y) ∧ nx x < nx y)) := by
  unfold ltOf cfX
  exact decide_eq_decide.2 (cf_lt f _ _)
theorem swoX (f : Int → Int) : Sort.SWO (ltOf (cfX f)) where
  irrefl x := by rw [ltX]; simp
  trans x y z h1 h2 := by rw [ltX, decide_eq_true_eq] at *; omega
  ntrans x y z h1 h2 := by rw [ltX, decide_eq_false_iff_not] at *; omega

theorem cmpLays (D : DataW Unit) (f : Int → Int) (b n B blk off size : Nat) (w : World) (hO : OMap w b n D) (hM : MapIs D f) (hc : w.cell? ⟨B, 0, none⟩ = some (.map (some b))) (hB : B < w.heap.size) (h1 : B ≠ blk) (h2 : b ≠ blk) :
    CmpLays1 Try.prog 77 #[.pointer (some ⟨B, 0, none⟩)] encX (cfX f) blk off size w := fun m os dk _ x y => by
  refine (cmp2_any D f b n B _ (nx x) (nx y) (hO.kept (sort_grown w blk off m dk os) (by simp [h2])) hM ((World.cell?_of_block (sort_block h1 hB)).trans hc) (nx_in x) (nx_in y)).mono ?_
  rintro e w' ⟨rfl, o, rfl⟩
  exact ⟨rfl, 0, #[o], Sort.alloc_eq_grow _ _⟩

theorem ihold {w : World} {g : Nat} {cur : Array Value} {e : TypeId} {ss : List Int} (hb : w.heap[g]? = some (.cells cur e (0, 0))) (ht : cur.toList.take ss.length = ic ss) (hI : ∀ x ∈ ss, I64 x) : Sort.Holds encX w g 0 ss.toArray := by
  intro j hj
  have hj' : j < ss.length := by simpa using hj
  refine ⟨?_, by simp [World.frozen?, hb]⟩
  have h1 : (cur.toList.take ss.length)[j]? = (ic ss)[j]? := by rw [ht]
  rw [List.getElem?_take_of_lt hj'] at h1
  simp only [World.cell?, hb, Nat.zero_add]
  simp only [Option.isSome_none, Bool.false_eq_true, if_false]
  rw [← Array.getElem?_toList, h1]
  have h2 : nx ss[j] = ss[j] := nx_same (hI _ (List.getElem_mem hj'))
  simp [hj', ic, h2]
theorem isorted {w : World} {base g cap n : Nat} {os : Array Obj} {cur : Array Value} {ss : List Int} {d : Array Int} (hl : d.size = ss.length) (hI : ∀ x ∈ d.toList, I64 x) (hbase : base ≤ g) (hb : w.heap[g]? = some (.cells cur 3 (0, 0)))
    (h1 : ss.length ≤ cap) (h2 : cap ≤ maxLen) (h3 : cur.size = cap * 1) : IRow (sortWorld encX w g 0 n d os) base (.slice (some ⟨g, 0, none⟩) ss.length cap) d.toList := by
  have hg : g < w.heap.size := (Array.getElem?_eq_some_iff.1 hb).1
  have hblk : (sortWorld encX w g 0 n d os).heap[g]? = some (.cells (Sort.putCells encX 0 d cur) 3 (0, 0)) := by
    unfold sortWorld
    rw [Sort.heap_grow_old _ _ (by simpa using hg)]
    simp [Sort.putRow, Sort.mapBlock, Sort.ahead, Array.getElem?_modify, hb, Sort.onCells]
  have e : d.toList.length = ss.length := by simpa using hl
  unfold IRow
  rw [e]
  refine ⟨by simp [ic_length, hl], .inr ⟨g, cap, _, rfl, hbase, hblk, h1, h2, by simp [Sort.putCells, h3], ?_⟩⟩
  rw [Nat.mul_one]
  apply List.ext_getElem?
  intro j
  by_cases hj : j < ss.length
  · have hj2 : j < d.size := by omega
    have hx : nx d[j] = d[j] := nx_same (hI _ (by simp))
    rw [List.getElem?_take_of_lt hj, Array.getElem?_toList]
    simp [Sort.putCells, ic, hj2, show j < cur.size by omega, hx]
  · rw [List.getElem?_take_eq_none (by omega), List.getElem?_eq_none (by simp [ic_length]; omega)]

/-- The order of the favorites by a number f: more, or as many and less. -/
def befF (f : Int → Int) (a b : Int) : Prop := f b < f a ∨ (f a = f b ∧ a < b)
theorem sorted_pairwise (f : Int → Int) (d : Array Int) (hnd : d.toList.Nodup) (hI : ∀ x ∈ d.toList, I64 x) (hs : Sort.SortedIn (ltOf (cfX f)) 0 d.size d) : d.toList.Pairwise (befF f) := by
  rw [List.pairwise_iff_getElem]
  intro i j hi hj hij
  have hi' : i < d.size := by simpa using hi
  have hj' : j < d.size := by simpa using hj
  have h := hs i j (Nat.zero_le _) hij hj'
  have e1 : d[i]! = d.toList[i] := by simp [hi']
  have e2 : d[j]! = d.toList[j] := by simp [hj']
  rw [ltX, e1, e2, nx_same (hI _ (List.getElem_mem hi)), nx_same (hI _ (List.getElem_mem hj)), decide_eq_false_iff_not] at h
  have hne : d.toList[i] ≠ d.toList[j] := (List.pairwise_iff_getElem.1 hnd) i j hi hj hij
  unfold befF
  omega

set_option maxHeartbeats 4000000 in
theorem sorted_any (D : DataW Unit) (f : Int → Int) (b n B Bm : Nat) (w : World) (hO : OMap w b n D) (hM : MapIs D f) (hc : w.cell? ⟨B, 0, none⟩ = some (.map (some b))) (hB : B < w.heap.size) (hcm : w.cell? ⟨Bm, 0, none⟩ = some (.map (some b))) (hBm : Bm < w.heap.size) (hD : Maps.size D ≤ 1000000) :
    Calls Try.prog 75 #[.func (.func 97) #[] #[.pointer (some ⟨Bm, 0, none⟩)], .func (.func 77) #[] #[.pointer (some ⟨B, 0, none⟩)]] w fun e w' => ∃ v S, e = .returned v ∧ IRow w' w.heap.size v S ∧ (∀ x, x ∈ S ↔ f x ≠ 0) ∧ S.Pairwise (befF f) ∧ Below w.heap.size w w' := by
  obtain ⟨hnd, hmem, hI, hlen⟩ := hM.keys hO
  have hseq : SeqGives Fence.wide 2 Try.prog 97 #[.pointer (some ⟨Bm, 0, none⟩)] encZ (fun ss => ss.Perm (intKeys D)) (Maps.size D) w :=
    AnyZI.keys_gives (ρ := Try.keysA_ren) { Try.keysA with } Fence.wide _ trivial rfl (by omega) Bm b n D w hBm hcm hO
  have hcol := callsIn_wide.1 (AnyZI.collect_in Try.collectA Fence.wide 4 trivial trivial rfl (by omega) 97 #[.pointer (some ⟨Bm, 0, none⟩)] trivial (enters_of Try.func97 (by kernel_rfl) rfl) _ _ (by unfold maxLen; omega) (by omega) w hseq)
  change Calls _ 95 _ _ _ at hcol
  have HC := Lib.hid hcol
  have hbl := hO.lt
  have HO := Lib.hid hO
  have HCB := Lib.hid hc
  have HI := Lib.hid hI
  have HND := Lib.hid hnd
  have HMEM := Lib.hid hmem
  clear hcol hseq hO hc hcm hI hnd hmem
  go_enter Try.func75, Try.ntmps75
  go_wp2_with fail
  refine HC.out.mono ?_
  rintro e w1 ⟨v, ss, rfl, hS, hrow, hnil, hb⟩
  have hSI : ∀ x ∈ ss, I64 x := fun x hx => HI.out x (hS.mem_iff.1 hx)
  have hSM : ∀ x, x ∈ ss ↔ f x ≠ 0 := fun x => (hS.mem_iff).trans (HMEM.out x)
  have hSN : ss.Nodup := hS.nodup_iff.2 HND.out
  have hSL : ss.length ≤ 1000000 := by rw [hS.length_eq, hlen]; exact hD
  have HB := Lib.hid hb
  clear HC
  by_cases h0 : ss = []
  · subst h0
    have hv := hnil.2 rfl
    subst hv
    have HM0 := Lib.hid hSM
    clear hSI hSM hSN hrow hnil hb hS
    have hsn := AnyF.slices_SortFunc_none { Try.sortA with } none 0 (.func (.func 77) #[] #[.pointer (some ⟨B, 0, none⟩)]) w1
    change Calls _ 96 _ _ _ at hsn
    go_wp2_with fail
    refine hsn.mono ?_
    rintro e w' ⟨rfl, rfl⟩
    clear hsn
    go_wp2
    go_ret
    exact ⟨_, [], rfl, IRow.nil _ _, HM0.out, List.Pairwise.nil, HB.out⟩
  · rcases hrow.2 with ⟨_, hn⟩ | ⟨g, cap, cur, rfl, hbase, hb1, h1, h2, h3, h4⟩
    · exact absurd (List.eq_nil_of_length_eq_zero hn) h0
    · have hg : g < w1.heap.size := (Array.getElem?_eq_some_iff.1 hb1).1
      have hO1 := HO.out.keep hb
      have hc1 : w1.cell? ⟨B, 0, none⟩ = some (.map (some b)) := (hb.cell (p := ⟨B, 0, none⟩) hB).trans HCB.out
      have hB1 : B < w1.heap.size := Nat.lt_of_lt_of_le hB hb.size
      have hsrt := Any.slices_SortFunc Try.sortA encX (fun _ => rfl) (cfX f) (swoX f) 77 #[.pointer (some ⟨B, 0, none⟩)] g 0 cap ss.toArray w1 (enters_of Try.func77 (by kernel_rfl) rfl)
        (cmpLays D f b n B g 0 _ w1 hO1 hM hc1 hB1 (by omega) (by omega)) (ihold hb1 (by rw [Nat.mul_one] at h4; exact h4) hSI) hg (by simp; omega)
      have esz : ss.toArray.size = ss.length := by simp
      rw [esz] at hsrt
      change Calls _ 96 _ _ _ at hsrt
      have HS := Lib.hid hsrt
      have HSI := Lib.hid hSI
      have HSM := Lib.hid hSM
      have HSN := Lib.hid hSN
      have HB1 := Lib.hid hb1
      have H4 := Lib.hid h3
      clear hsrt hSI hSM hSN hb1 hS hrow hnil hb hO1 hc1 h0 h3 h4
      go_wp2_with fail
      refine HS.out.mono ?_
      rintro e w' ⟨rfl, d', m, os, hp, hs, rfl⟩
      have hd1 : d'.size = ss.length := by rw [hp.1]; simp
      have hperm : d'.toList.Perm ss := by
        have := hp.2.2
        have e1 : d'.extract 0 ss.length = d' := by rw [← hd1]; simp
        have e2 : ss.toArray.extract 0 ss.length = ss.toArray := by rw [← esz]; exact Array.extract_size
        rw [e1, e2] at this
        exact this
      have hI2 : ∀ x ∈ d'.toList, I64 x := fun x hx => HSI.out x (hperm.mem_iff.1 hx)
      rw [← hd1] at hs
      have hpw := Lib.hid (sorted_pairwise f d' (hperm.nodup_iff.2 HSN.out) hI2 hs)
      have hrow2 := Lib.hid (isorted (n := m) (os := os) hd1 hI2 hbase HB1.out h1 h2 H4.out)
      have hmm := Lib.hid (fun x => (hperm.mem_iff (a := x)).trans (HSM.out x))
      have HB2 := Lib.hid (HB.out.grown (sort_grown w1 g 0 m d' os) HB.out.size (fun j hj => by cases hj; exact hbase))
      clear hp hs hperm hI2 HS
      go_wp2
      go_ret
      exact ⟨_, _, rfl, hrow2.out, hmm.out, hpw.out, HB2.out⟩
end Go.Proofs.Ytbdkoagagcemcaa.Pp
/- The walk of layer 25's reference: joining. -/
namespace Go.Proofs.Ytbdkoagagcemcaa.Pp
open Go.RowKit Go.Maps

theorem joinRes_err {fs ts rs : List Int} {w w' : World} {e : Ending} {v : Int} (h : Po.err fs ts rs = v) (hv : v ≠ 0) (he : e = .returned (.tuple #[.slice none 0 0, .int .i64 v])) (hB : Below w.heap.size w w') : JoinRes fs ts rs w e w' :=
  ⟨none, 0, by rw [he, h, show Po.out fs ts rs = [] from if_neg (by rw [h]; exact hv)]; rfl, ⟨by rw [show Po.out fs ts rs = [] from if_neg (by rw [h]; exact hv)]; exact Ints.nil _ _ _, fun g o e => by cases e⟩, hB⟩

set_option maxHeartbeats 8000000 in
set_option maxRecDepth 100000 in
theorem rjoin_any (A B C : Option Addr) (c d k : Nat) (fs ts rs : List Int) (w : World) (hx : Ints w A c fs) (hy : Ints w B d ts) (hz : Ints w C k rs)
    (hn : fs.length ≤ 100000) (hm : ts.length ≤ 100000) (hl : rs.length ≤ 100000) :
    Calls Try.prog 42 #[.slice A fs.length c, .slice B ts.length d, .slice C rs.length k] w (JoinRes fs ts rs w) := by
  have HX := Lib.hid hx
  have HY := Lib.hid hy
  have HZ := Lib.hid hz
  have HCf := Lib.hid (fun v => count_any A c fs v w hx (by omega))
  have HCt := Lib.hid (count_any B d ts 0 w hy (by omega))
  have HCr := Lib.hid (fun v => count_any C k rs v w hz (by omega))
  clear hx hy hz
  go_enter Try.func42, Try.ntmps42
  go_wp2_with fail
  go_loop [17] (fun u => ∃ i : Nat, i ≤ ts.length ∧ u = .int .i64 i ∧ Po.bad fs (ts.take i) = false) (fun u => ts.length - (intOf u).toNat)
  case atStart => exact ⟨0, Nat.zero_le _, rfl, rfl⟩
  case round =>
    obtain ⟨i, hil, rfl, hbad⟩ := hrel
    have HN := Lib.hid hbad
    by_cases h1 : i < ts.length
    · obtain ⟨g, o, x, rfl, hg, hxi, hct⟩ := HY.out.at_ h1
      have htk := Lib.hid (take_snocI ts i x hxi)
      have hmem := Lib.hid (List.mem_of_getElem? hxi)
      have hbd := Lib.hid (show Po.bad fs (ts.take (i + 1)) = (decide (x < 0) || decide ((fs.length : Int) < x)) by
        rw [htk.out]; unfold Po.bad; rw [List.any_append]
        have := HN.out; unfold Po.bad at this; rw [this]; simp)
      clear hxi hbad
      by_cases hneg : x < 0
      · have q : decide (x < 0) = true := by simp [hneg]
        have hfin := Lib.hid (show Po.err fs ts rs = 5 from if_pos (List.any_eq_true.2 ⟨x, hmem.out, by simp [hneg]⟩))
        clear hneg
        go_wp2
        go_ret2
        exact joinRes_err hfin.out (by omega) rfl (Below.refl _ _)
      · have q : decide (x < 0) = false := by simp [hneg]
        by_cases hbig : (fs.length : Int) < x
        · have q2 : decide ((fs.length : Int) < x) = true := by simp [hbig]
          have hfin := Lib.hid (show Po.err fs ts rs = 5 from if_pos (List.any_eq_true.2 ⟨x, hmem.out, by simp [hbig]⟩))
          clear hneg hbig
          go_wp2
          go_ret2
          exact joinRes_err hfin.out (by omega) rfl (Below.refl _ _)
        · have q2 : decide ((fs.length : Int) < x) = false := by simp [hbig]
          have hnb := Lib.hid (hbd.out.trans (by rw [q, q2, Bool.or_false]))
          clear hneg hbig
          go_wp2
          go_round
          case rel => exact ⟨i + 1, by omega, by go_num, hnb.out⟩
          case measure => simp [intOf]; omega
    · have hfin : ts.take i = ts := List.take_of_length_le (by omega)
      rw [hfin] at hbad
      have HBAD := Lib.hid hbad
      have HE := Lib.hid (show Po.err fs ts rs = if Po.twice fs rs then 10 else if rs.length < ts.count 0 then 6 else if ts.count 0 < rs.length then 2 else 0 from if_neg (by rw [hbad]; simp))
      clear hfin hbad HN
      go_wp2_with fail
      go_loop [32] (fun u => ∃ j : Nat, j ≤ fs.length ∧ u = .int .i64 j ∧ ∀ f ∈ fs.take j, ¬ (fs.count f > 1 ∨ rs.count f > 0)) (fun u => fs.length - (intOf u).toNat)
      case atStart => exact ⟨0, Nat.zero_le _, rfl, fun f hf => by simp at hf⟩
      case round =>
        obtain ⟨j, hjl, rfl, hno⟩ := hrel
        have HN := Lib.hid hno
        by_cases h2 : j < fs.length
        · obtain ⟨g, o, f, rfl, hg, hfi, hcf⟩ := HX.out.at_ h2
          have hmem := Lib.hid (List.mem_of_getElem? hfi)
          have htk := Lib.hid (take_snocI fs j f hfi)
          have hce : fs.count f ≤ 1000000 := Nat.le_trans List.count_le_length (by omega)
          have hcr : rs.count f ≤ 1000000 := Nat.le_trans List.count_le_length (by omega)
          clear hfi hno
          have hF := Lib.hid (HCf.out f)
          have hR := Lib.hid (HCr.out f)
          generalize hcm : rs.count f = m at hR hcr
          generalize hcn : fs.count f = n at hF hce
          have HCM := Lib.hid hcm
          have HCN := Lib.hid hcn
          clear hcm hcn
          by_cases hg1 : 1 < n
          · have q : decide (1 < n) = true := by simp [hg1]
            have q' : decide ((1 : Int) < ((n : Nat) : Int)) = true := by simp; omega
            have hfin := Lib.hid (HE.out.trans (if_pos ((Po.twice_iff fs rs).2 ⟨f, hmem.out, .inl (by rw [HCN.out]; exact hg1)⟩)))
            clear hg1
            go_wp2_with fail
            refine hF.out.mono ?_
            rintro e w' ⟨rfl, rfl⟩
            go_wp2
            go_ret2
            exact joinRes_err hfin.out (by omega) rfl (Below.refl _ _)
          · have q : decide (1 < n) = false := by simp; omega
            have q' : decide ((1 : Int) < ((n : Nat) : Int)) = false := by simp; omega
            by_cases hg2 : 0 < m
            · have q2 : decide (0 < m) = true := by simp; omega
              have q2' : decide ((0 : Int) < ((m : Nat) : Int)) = true := by simp; omega
              have hfin := Lib.hid (HE.out.trans (if_pos ((Po.twice_iff fs rs).2 ⟨f, hmem.out, .inr (by rw [HCM.out]; exact hg2)⟩)))
              clear hg1 hg2
              go_wp2_with fail
              refine hF.out.mono ?_
              rintro e w' ⟨rfl, rfl⟩
              go_wp2_with fail
              refine hR.out.mono ?_
              rintro e w' ⟨rfl, rfl⟩
              go_wp2
              go_ret2
              exact joinRes_err hfin.out (by omega) rfl (Below.refl _ _)
            · have q2 : decide (0 < m) = false := decide_eq_false hg2
              have q2' : decide ((0 : Int) < ((m : Nat) : Int)) = false := decide_eq_false (by omega)
              have hnx := Lib.hid (show ∀ y ∈ fs.take (j + 1), ¬ (fs.count y > 1 ∨ rs.count y > 0) from fun y hy => by
                rw [htk.out, List.mem_append] at hy
                rcases hy with h | h
                · exact HN.out y h
                · rw [List.mem_singleton] at h; subst h; rw [HCN.out, HCM.out]; omega)
              clear hg1 hg2
              go_wp2_with fail
              refine hF.out.mono ?_
              rintro e w' ⟨rfl, rfl⟩
              go_wp2_with fail
              refine hR.out.mono ?_
              rintro e w' ⟨rfl, rfl⟩
              go_wp2
              go_round
              case rel => exact ⟨j + 1, by omega, by go_num, hnx.out⟩
              case measure => simp [intOf]; omega
        · have hfin : fs.take j = fs := List.take_of_length_le (by omega)
          rw [hfin] at hno
          have htw : Po.twice fs rs = false := by
            cases h : Po.twice fs rs with
            | false => rfl
            | true => obtain ⟨f, hf, h2⟩ := (Po.twice_iff fs rs).1 h; exact absurd h2 (hno f hf)
          have HE2 := Lib.hid (HE.out.trans (if_neg (by rw [htw]; simp)))
          have hct : ts.count 0 ≤ 1000000 := Nat.le_trans List.count_le_length (by omega)
          clear htw hno hfin HN HE
          have hT := Lib.hid HCt.out
          generalize hcz : ts.count 0 = z at hT hct
          have HCZ := Lib.hid hcz
          rw [hcz] at HE2
          clear hcz
          by_cases hlt : rs.length < z
          · have q : decide (rs.length < z) = true := by simp [hlt]
            have hfin2 := Lib.hid (HE2.out.trans (if_pos hlt))
            clear hlt
            go_wp2_with fail
            refine hT.out.mono ?_
            rintro e w' ⟨rfl, rfl⟩
            go_wp2
            go_ret2
            exact joinRes_err hfin2.out (by omega) rfl (Below.refl _ _)
          · have q : decide (rs.length < z) = false := by simp [hlt]
            by_cases hgt : z < rs.length
            · have q2 : decide (z < rs.length) = true := by simp [hgt]
              have hfin2 := Lib.hid (HE2.out.trans ((if_neg hlt).trans (if_pos hgt)))
              clear hlt hgt
              go_wp2_with fail
              refine hT.out.mono ?_
              rintro e w' ⟨rfl, rfl⟩
              go_wp2_with fail
              refine hT.out.mono ?_
              rintro e w' ⟨rfl, rfl⟩
              go_wp2
              go_ret2
              exact joinRes_err hfin2.out (by omega) rfl (Below.refl _ _)
            · have q2 : decide (z < rs.length) = false := by simp [hgt]
              have hE0 := Lib.hid (HE2.out.trans ((if_neg hlt).trans (if_neg hgt)))
              have hfin2 := Lib.hid (show Po.out fs ts rs = Po.rowN fs ts rs ts.length from if_pos hE0.out)
              have hzr := Lib.hid (show ts.count 0 = rs.length by rw [HCZ.out]; omega)
              clear hlt hgt HCf HCr HCt
              go_wp2_with fail
              refine hT.out.mono ?_
              rintro e w' ⟨rfl, rfl⟩
              go_wp2_with fail
              refine hT.out.mono ?_
              rintro e w' ⟨rfl, rfl⟩
              clear hT
              go_wp2_with fail
              go_loopw [2, 12, 59] (fun v a u wr => ∃ i : Nat, i ≤ ts.length ∧ u = .int .i64 i ∧ (∃ A' c', v = .slice A' (rs.drop ((ts.take i).count 0)).length c' ∧ Ints w A' c' (rs.drop ((ts.take i).count 0))) ∧ IRow wr w.heap.size a (Po.rowN fs ts rs i) ∧ Below w.heap.size w wr) (fun _ _ u _ => ts.length - (intOf u).toNat)
              case atStart => exact ⟨0, Nat.zero_le _, rfl, ⟨C, k, rfl, HZ.out⟩, IRow.nil _ _, Below.refl _ _⟩
              case round =>
                obtain ⟨i, hil, rfl, ⟨A', c', rfl, hrest⟩, hrow, hB⟩ := hrel
                have HB := Lib.hid hB
                have HR := Lib.hid hrest
                have HO := Lib.hid hrow
                have hln := Po.rowN_length fs ts rs i
                by_cases h3 : i < ts.length
                · obtain ⟨g, o, x, rfl, hg, hxi, hct2⟩ := (HY.out.grow hB).at_ h3
                  have hxr := Po.bad_at HBAD.out hxi
                  have hcs := Lib.hid (Po.count_step hxi)
                  have HXI := Lib.hid hxi
                  have hsz := HB.out.size
                  clear hB hrest hrow hxi
                  by_cases hx0 : x = 0
                  · subst hx0
                    have q : decide ((0 : Int) < 0) = false := rfl
                    have hrm := Po.room HXI.out
                    rw [hzr.out] at hrm
                    have hcs2 := Lib.hid (hcs.out.trans (by rw [if_pos rfl]))
                    obtain ⟨y, hyr⟩ : ∃ y, rs[(ts.take i).count 0]? = some y := ⟨_, List.getElem?_eq_getElem hrm⟩
                    have hdr := drop_at hyr
                    have hel := Lib.hid (Po.el_rest (fs := fs) HXI.out hyr)
                    have hR2 := HR.out
                    rw [hdr] at hR2 ⊢
                    obtain ⟨g2, o2, rfl, hg2, hc2, hcap, hnx⟩ := hR2.next
                    have hcell2 : wr.cell? ⟨g2, o2, none⟩ = some (.int .i64 y) := (HB.out.cell (p := ⟨g2, o2, none⟩) hg2).trans hc2
                    have HN := Lib.hid hnx
                    rw [← hcs2.out] at HN ⊢
                    have HS := Lib.hid (show Po.rowN fs ts rs (i + 1) = Po.rowN fs ts rs i ++ [y] by rw [Po.rowN_succ, hel.out])
                    clear HR hc2 hR2 hdr hyr hcs hnx hg2
                    generalize hrr : rs.drop ((ts.take (i + 1)).count 0) = rs2 at *
                    have HRR := Lib.hid hrr
                    clear hrr
                    simp only [List.length_cons]
                    go_wp2_with (at_builtin; refine wpList_app1 rfl _ _ rfl w.heap.size u12 _ rfl (HO.out.grow ((Below.refl _ _).alloc (Nat.le_refl _) _)) wr.heap.size y _ _ rfl (heap_alloc_new _ _) (by omega) (by simp; omega) ?_)
                    intro v' w1 hown1 hhop1
                    have hR1 := Lib.hid hown1
                    have HB1 := Lib.hid ((HO.out.grow ((Below.refl _ _).alloc (Nat.le_refl _) (.cells #[.int .i64 y] 3))).hop_below hhop1 (HB.out.alloc hsz _) (Nat.le_refl _) (Nat.le_refl _))
                    clear hown1 hhop1
                    go_wp2
                    go_roundw
                    case rel => exact ⟨i + 1, by omega, by go_num, ⟨_, _, by rw [HRR.out], by rw [HRR.out]; exact HN.out⟩, by rw [HS.out]; exact hR1.out, HB1.out⟩
                    case measure => simp [intOf]; omega
                  · obtain ⟨m, rfl⟩ : ∃ m : Nat, x = ((m + 1 : Nat) : Int) := ⟨(x - 1).toNat, by omega⟩
                    have q : decide ((0 : Int) < ((m + 1 : Nat) : Int)) = true := by simp
                    obtain ⟨g2, o2, y, rfl, hg2, hyr, hcell2⟩ := (HX.out.grow HB.out).at_ (i := m) (by omega)
                    have ek : ((m + 1 : Nat) : Int) - 1 = (m : Int) := by omega
                    have hel := Lib.hid (Po.el_place (rs := rs) HXI.out hyr)
                    have hcs2 := Lib.hid (hcs.out.trans (by rw [if_neg hx0, Nat.add_zero]))
                    have hmf : m < fs.length := by omega
                    have HS := Lib.hid (show Po.rowN fs ts rs (i + 1) = Po.rowN fs ts rs i ++ [y] by rw [Po.rowN_succ, hel.out])
                    rw [← hcs2.out] at HR ⊢
                    generalize hrr : rs.drop ((ts.take (i + 1)).count 0) = rs2 at *
                    have HRR := Lib.hid hrr
                    clear hrr hcs hyr hxr hx0
                    go_wp2_with (at_builtin; refine wpList_app1 rfl _ _ rfl w.heap.size u12 _ rfl (HO.out.grow ((Below.refl _ _).alloc (Nat.le_refl _) _)) wr.heap.size y _ _ rfl (heap_alloc_new _ _) (by omega) (by simp; omega) ?_)
                    intro v' w1 hown1 hhop1
                    have hR1 := Lib.hid hown1
                    have HB1 := Lib.hid ((HO.out.grow ((Below.refl _ _).alloc (Nat.le_refl _) (.cells #[.int .i64 y] 3))).hop_below hhop1 (HB.out.alloc hsz _) (Nat.le_refl _) (Nat.le_refl _))
                    clear hown1 hhop1
                    go_wp2
                    go_roundw
                    case rel => exact ⟨i + 1, by omega, by go_num, ⟨_, _, by rw [HRR.out], by rw [HRR.out]; exact HR.out⟩, by rw [HS.out]; exact hR1.out, HB1.out⟩
                    case measure => simp [intOf]; omega
                · have hii : i = ts.length := by omega
                  rw [hii] at hrow
                  obtain ⟨A2, c2, rfl, hrd, hfr⟩ := hrow.readsB
                  rw [Po.rowN_length] at *
                  have HF := Lib.hid hrd
                  have HFR := Lib.hid hfr
                  clear hfr hrest hrow hrd hB HR HO
                  go_wp2
                  go_ret2
                  exact ⟨_, _, by rw [hfin2.out, Po.rowN_length, hE0.out]; rfl, ⟨by rw [hfin2.out]; exact HF.out, HFR.out⟩, HB.out⟩
end Go.Proofs.Ytbdkoagagcemcaa.Pp
/- The walk of layer 25's reference: the favorites. -/
namespace Go.Proofs.Ytbdkoagagcemcaa.Pp
open Go.RowKit Go.Maps

/-- What the call comes to. -/
def FavRes (l : List Int) (most : Int) (w : World) (e : Ending) (w' : World) : Prop :=
  ∃ A c, e = .returned (.slice A (Po.favs l most.toNat).length c) ∧ Ints w' A c (Po.favs l most.toNat) ∧ Below w.heap.size w w'

end Go.Proofs.Ytbdkoagagcemcaa.Pp
/- The walk of layer 25: the favorites. -/
namespace Go.Proofs.Ytbdkoagagcemcaa.Pp
open Go.RowKit Go.Maps

theorem _root_.Go.Proofs.Ytbdkoagagcemcaa.Ints.take {w : World} {A : Option Addr} {c : Nat} {xs : List Int} (h : Ints w A c xs) (k : Nat) : Ints w A c (xs.take k) := by
  refine ⟨Nat.le_trans (by rw [List.length_take]; omega) h.1, fun hp => ?_⟩
  obtain ⟨g, o, e, hg, hc⟩ := h.2 (by rw [List.length_take] at hp; omega)
  refine ⟨g, o, e, hg, fun j x hx => hc j x ?_⟩
  have hjk : j < k := by
    obtain ⟨h1, _⟩ := List.getElem?_eq_some_iff.1 hx
    rw [List.length_take] at h1; omega
  rwa [List.getElem?_take_of_lt hjk] at hx
/-- The numbers that come twice, by their number. -/
def Po.f2 (l : List Int) (k : Int) : Int := if ((l.count k : Nat) : Int) < 2 then 0 else ((l.count k : Nat) : Int)
theorem is_of {l S : List Int} (h1 : ∀ x, x ∈ S ↔ Po.f2 l x ≠ 0) (h2 : S.Pairwise (befF (Po.f2 l))) : Po.Is l S := by
  have hf : ∀ x, x ∈ S → 2 ≤ l.count x ∧ Po.f2 l x = ((l.count x : Nat) : Int) := fun x hx => by
    have := (h1 x).1 hx
    unfold Po.f2 at this ⊢
    split
    · rename_i h; rw [if_pos h] at this; exact absurd rfl this
    · omega
  refine ⟨h2.imp_of_mem (fun {a b} ha hb h => ?_), fun v => ⟨fun hv => (hf v hv).1, fun hv => (h1 v).2 ?_⟩⟩
  · unfold befF at h
    rw [(hf a ha).2, (hf b hb).2] at h
    unfold Po.bef
    omega
  · unfold Po.f2
    rw [if_neg (by omega)]; omega
theorem size_struck {w : World} {b n : Nat} {D : DataW Unit} (hO : OMap w b n D) : Maps.size (Lib.deleteFuncD under2 D) ≤ Maps.size D := by
  obtain ⟨es, rfl, _, _⟩ := hO.entries lawI
  exact List.length_filter_le _ _

set_option maxHeartbeats 8000000 in
set_option maxRecDepth 100000 in
theorem fav_any (A : Option Addr) (c : Nat) (l : List Int) (most : Int) (w : World) (hx : Ints w A c l) (hI : ∀ x ∈ l, I64 x) (_hm : I64 most) (hn : l.length ≤ 100000) :
    Calls Try.prog 51 #[.slice A l.length c, .int .i64 most] w (FavRes l most w) := by
  have hmm := @run_makeMap Try.prog
  have HX := Lib.hid hx
  have HI := Lib.hid hI
  clear hx hI
  go_enter Try.func51, Try.ntmps51
  go_wp2_with fail
  go_loopw [12] (fun u wr => ∃ (i : Nat) (D : DataW Unit), i ≤ l.length ∧ u = .int .i64 i ∧ OMap wr w.heap.size i D ∧ MapIs D (fun k => ((l.take i).count k : Nat)) ∧ Maps.size D ≤ i ∧ wr.cell? ⟨w.heap.size + 1, 0, none⟩ = some (.map (some w.heap.size)) ∧ w.heap.size + 1 < wr.heap.size ∧ Below w.heap.size w wr) (fun u _ => l.length - (Go.RowKit.intOf u).toNat)
  case atStart => exact ⟨0, .map [], Nat.zero_le _, rfl, (World.ownsMap_made _ _ _ _).alloc _, MapIs.empty.same (fun x => rfl), Nat.le_refl _, by simp, by simp, ((Below.refl _ _).alloc (Nat.le_refl _) _).alloc (by simp) _⟩
  case round =>
    obtain ⟨i, D, hil, rfl, hown, hmap, hsz, hbox, hbl, hB⟩ := hrel
    have HB := Lib.hid hB
    have HO := Lib.hid hown
    have HM := Lib.hid hmap
    by_cases h1 : i < l.length
    · obtain ⟨g, o, x, rfl, hg, hxi, hcell⟩ := (HX.out.grow hB).at_ h1
      have hIx := HI.out x (List.mem_of_getElem? hxi)
      have hlook := look_run hown hmap hIx
      have htk := Lib.hid (take_snocI l i x hxi)
      have HIx := Lib.hid hIx
      have hcl : (l.take i).count x ≤ 1000000 := Nat.le_trans List.count_le_length (by rw [List.length_take]; omega)
      have hnew := Lib.hid (show ∀ k, (if k = x then (((l.take i).count x : Nat) : Int) + 1 else (((l.take i).count k : Nat) : Int)) = (((l.take (i + 1)).count k : Nat) : Int) from fun k => by
        rw [htk.out, count_snoc]
        by_cases e : k = x
        · subst e; rw [if_pos rfl, if_pos rfl]; omega
        · rw [if_neg e, if_neg (fun h => e h.symm)]; rfl)
      have hsp := size_put (HO.out.tidy lawI) (k := .int .i64 x) (.lit (.int .i64 (((l.take i).count x : Nat) + 1 : Int)))
      have HSP := Lib.hid hsp
      have HBX := Lib.hid hbox
      clear hB hown hmap hxi hIx hsp
      go_wp2_with (first | (at_mapUpdate; refine wpList_mapUpdate_own _ rfl _ _ _ 92 rfl 3 3 lawI Try.underlying92 _ w.heap.size i _ rfl HO.out (by unfold maxLen; omega) _ _ _ rfl rfl (keyI HIx.out) (.lit (.int .i64 (((l.take i).count x : Nat) + 1 : Int))) [] (plainElem_int Try.underlying3 (WalkArith.wf_i64 (by omega))) ?_; intro w1 hown1 hgrow1) | go_in)
      have hO1 := Lib.hid hown1
      have hB1 := Lib.hid (HB.out.grown hgrow1 HB.out.size (fun j hj => by cases hj; exact Nat.le_refl _))
      have hbox1 := Lib.hid ((World.cell?_of_block (a := ⟨w.heap.size + 1, 0, none⟩) (hgrow1.block (w.heap.size + 1) hbl (by simp))).trans HBX.out)
      have hbl1 := Nat.lt_of_lt_of_le hbl hgrow1.size
      clear hown1 hgrow1 hlook
      go_wp2
      go_roundw
      case rel =>
        refine ⟨i + 1, _, by omega, by go_num, hO1.out, (HM.out.put HO.out.isMap x _ (by omega)).same hnew.out, ?_, hbox1.out, hbl1, hB1.out⟩
        rw [HSP.out]
        split <;> omega
      case measure => simp [Go.RowKit.intOf]; omega
    · have hfin : l.take i = l := List.take_of_length_le (by omega)
      obtain rfl : i = l.length := by omega
      rw [hfin] at hmap
      have HM1 := Lib.hid (hmap.struck hown)
      have hs2 := size_struck hown
      have HBX := Lib.hid hbox
      have hdl := AnyDf.maps_DeleteFunc Try.delA lawI RI under2 74 #[] w.heap.size l.length D wr (enters_of Try.func74 (by kernel_rfl) rfl) hown (fun W key val kl yd yp _ hk hv => del1_any W key val kl yd yp hk hv)
      change Calls _ 73 _ _ _ at hdl
      have HDL := Lib.hid hdl
      clear hmap hfin hown hB hdl
      go_wp2_with fail
      refine HDL.out.mono ?_
      rintro e w1 ⟨rfl, hO1, hg1⟩
      have hbox1 := (World.cell?_of_block (a := ⟨w.heap.size + 1, 0, none⟩) (hg1.block (w.heap.size + 1) hbl (by simp))).trans HBX.out
      have hbl1 := Nat.lt_of_lt_of_le hbl hg1.size
      have HB1 := Lib.hid (HB.out.grown hg1 HB.out.size (fun j hj => by cases hj; exact Nat.le_refl _))
      have HO1 := Lib.hid (show OMap w1 w.heap.size l.length (Lib.deleteFuncD under2 D) from hO1)
      have hky := callsIn_wide.1 (AnyZI.keys_in Try.keysA Fence.wide 4 trivial rfl (some w.heap.size) w1)
      change Calls _ 76 _ _ (fun e w' => e = .returned (.func (.func 97) #[] #[.pointer (some ⟨w1.heap.size, 0, none⟩)]) ∧ w' = w1.alloc (.cells #[.map (some w.heap.size)] 92)) at hky
      have HK := Lib.hid hky
      clear hO1 hg1 HDL hky
      go_wp2_with fail
      refine HK.out.mono ?_
      rintro e w2 ⟨rfl, rfl⟩
      have hb2 : Below w1.heap.size w1 (w1.alloc (.cells #[.map (some w.heap.size)] 92)) := (Below.refl _ _).alloc (Nat.le_refl _) _
      have HST := Lib.hid (sorted_any _ (Po.f2 l) w.heap.size l.length (w.heap.size + 1) w1.heap.size (w1.alloc (.cells #[.map (some w.heap.size)] 92)) (OMap.keep HO1.out hb2) HM1.out ((hb2.cell (p := ⟨w.heap.size + 1, 0, none⟩) hbl1).trans hbox1) (by simp; omega) (by simp) (by simp) (by omega))
      have HB2 := Lib.hid (Below.after' HB1.out hb2 (Nat.le_refl _))
      have hz2 : w.heap.size ≤ (w1.alloc (.cells #[.map (some w.heap.size)] 92)).heap.size := HB2.out.size
      clear hb2 HK
      generalize w1.alloc (.cells #[.map (some w.heap.size)] 92) = w2 at *
      go_wp2_with fail
      refine HST.out.mono ?_
      rintro e w3 ⟨v, S, rfl, hrow, hmem, hpw, hb3⟩
      have hIs := is_of hmem hpw
      have HFT := Lib.hid (Po.favs_take hIs most.toNat)
      have hSl : S.length ≤ 100000 := Nat.le_trans (length_le_sub S l (hpw.imp (fun {a b} h e => by subst e; unfold befF at h; omega)) (fun v hv => List.count_pos_iff.1 (by have := (hIs.2 v).1 hv; omega))) hn
      obtain ⟨A2, c2, rfl, hrd⟩ := hrow.reads
      have HR := Lib.hid hrd
      have HB3 := Lib.hid (Below.after' HB2.out hb3 (Nat.le_refl _))
      have hcap := hrd.1
      clear hrow hrd hb3 HST hIs hmem hpw
      go_wp2_with fail
      go_ret
      refine ⟨A2, c2, ?_, by rw [HFT.out]; exact HR.out.take _, HB3.out⟩
      have elen : (max (min most (S.length : Int)) 0).toNat = (Po.favs l most.toNat).length := by rw [HFT.out, List.length_take]; omega
      rw [← elen]
      rfl
end Go.Proofs.Ytbdkoagagcemcaa.Pp