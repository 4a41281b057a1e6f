/- Maps of ints by ints: entries struck, keys collected. -/
import Derived.Test.YteegpbdkalpeiaaPlainC
import Derived.Test.YteegpbdkalpeiaaMapI
import Derived.Lib.SlMapFilter
import Derived.Lib.SlKeysI
import Derived.WideAt
import Derived.OpenShut
namespace Go.Proofs.Yteegpbdkalpeiaa
open Go.RowKit Go.Maps

/-- What says that an entry goes: its number is under 2. -/
def under2 (_ : Lit) (d : DataW Unit) : Bool :=
  match d with
  | .lit (.int .i64 v) => decide (v < 2)
  | _ => false
/-- The entries under 2 are gone. -/
theorem MapIs.struck {w : World} {b n : Nat} {D : DataW Unit} {f : Int → Int} (hO : OMap w b n D) (h : MapIs D f) : MapIs (Lib.deleteFuncD under2 D) (fun k => if f k < 2 then 0 else f k) := by
  obtain ⟨es, rfl, hap, hkl⟩ := hO.entries lawI
  have hfind : ∀ k, f k ≠ 0 → ∃ p ∈ es, p.1 = .int .i64 k := fun k hk => by
    have h1 := h.2 k
    rw [decide_eq_true hk, has_eq, List.any_eq_true] at h1
    obtain ⟨p, hp, hs⟩ := h1
    exact ⟨p, hp, WideAt.sameKey_eq hs⟩
  have hval : ∀ p ∈ es, ∀ k, p.1 = .int .i64 k → p.2 = .lit (.int .i64 (f k)) ∧ f k ≠ 0 := fun p hp k hk => by
    have hm : ((.int .i64 k : Lit), p.2) ∈ es := by rw [← hk]; exact hp
    refine ⟨(WideAt.atKey_mem (.lit (.int .i64 0)) (show WideAt.IsKeyLit (.int .i64 k) from trivial) hap hm).symm.trans (h.1 k), fun h0 => ?_⟩
    have h1 := h.2 k
    rw [h0] at h1
    have h2 : Maps.has (.map es) (.int .i64 k) = true := by
      rw [has_eq, List.any_eq_true]
      exact ⟨_, hm, WideAt.sameKey_self (show WideAt.IsKeyLit (.int .i64 k) from trivial)⟩
    rw [h2] at h1
    simp at h1
  have hpd : ∀ p ∈ es, ∀ k, p.1 = .int .i64 k → under2 p.1 p.2 = decide (f k < 2) := fun p hp k hk => by
    rw [(hval p hp k hk).1]; rfl
  have hno : ∀ k, f k < 2 → ∀ p ∈ es.filter (fun p => !under2 p.1 p.2), p.1 ≠ .int .i64 k := fun k hk p hp e => by
    obtain ⟨h1, h2⟩ := List.mem_filter.1 hp
    rw [hpd p h1 k e, decide_eq_true hk] at h2
    cases h2
  refine ⟨fun k => ?_, fun k => ?_⟩
  · show (DataW.map (es.filter fun p => !under2 p.1 p.2)).atKey _ _ = DataW.lit (Lit.int .i64 (if f k < 2 then 0 else f k))
    by_cases hk : f k < 2
    · rw [if_pos hk, WideAt.atKey_none _ (hno k hk)]
    · rw [if_neg hk]
      obtain ⟨p, hp, e⟩ := hfind k (by omega)
      have hv := (hval p hp k e).1
      have hm : ((.int .i64 k : Lit), (DataW.lit (.int .i64 (f k)) : DataW Unit)) ∈ es.filter (fun p => !under2 p.1 p.2) := by
        rw [← hv, ← e]
        exact List.mem_filter.2 ⟨hp, by rw [hpd p hp k e, decide_eq_false hk]; rfl⟩
      exact WideAt.atKey_mem (.lit (.int .i64 0)) (show WideAt.IsKeyLit (.int .i64 k) from trivial) (hap.filter _) hm
  · show Maps.has (DataW.map (es.filter fun p => !under2 p.1 p.2)) _ = decide ((if f k < 2 then 0 else f k) ≠ 0)
    by_cases hk : f k < 2
    · rw [if_pos hk, has_eq, List.any_eq_false.2 (fun p hp hs => hno k hk p hp (WideAt.sameKey_eq hs))]
      simp
    · rw [if_neg hk]
      obtain ⟨p, hp, e⟩ := hfind k (by omega)
      rw [has_eq, List.any_eq_true.2 ⟨p, List.mem_filter.2 ⟨hp, by rw [hpd p hp k e, decide_eq_false hk]; rfl⟩, by rw [e]; exact WideAt.sameKey_self (show WideAt.IsKeyLit (.int .i64 k) from trivial)⟩]
      symm
      exact decide_eq_true (by omega)
/-- The keys: each once, just those that have a number. -/
theorem MapIs.keys {w : World} {b n : Nat} {D : DataW Unit} {f : Int → Int} (hO : OMap w b n D) (h : MapIs D f) : (intKeys D).Nodup ∧ (∀ k, k ∈ intKeys D ↔ f k ≠ 0) ∧ (∀ k ∈ intKeys D, I64 k) ∧ (intKeys D).length = Maps.size D := by
  obtain ⟨es, rfl, hap, hkl⟩ := hO.entries lawI
  obtain ⟨es', hD', hko⟩ := hO.keysOf
  obtain rfl : es = es' := by simpa using hD'
  have hk : ∀ p ∈ es, ∃ x, p.1 = .int .i64 x ∧ I64 x := fun p hp => by
    obtain ⟨v, hv⟩ := hko p hp
    obtain ⟨x, _, hx, hwf⟩ := Maps.keyOf_i64 Try.underlying3 hv
    refine ⟨x, hx, ?_⟩
    exact bounds_i64 hwf
  refine ⟨?_, fun k => ?_, fun k hm => ?_, by simp [intKeys, Maps.size]⟩
  · show (es.map fun p => Go.intOf p.1).Nodup
    refine List.pairwise_map.2 (hap.imp_of_mem fun {p q} hp' hq' hne e => hne ?_)
    obtain ⟨a, ha, _⟩ := hk p hp'
    obtain ⟨c, hc, _⟩ := hk q hq'
    rw [ha, hc] at e ⊢
    exact congrArg _ e
  · show k ∈ (es.map fun p => Go.intOf p.1) ↔ _
    have h1 := h.2 k
    rw [has_eq] at h1
    rw [List.mem_map]
    constructor
    · rintro ⟨p, hp, rfl⟩
      obtain ⟨a, ha, _⟩ := hk p hp
      have h3 : (es.any fun q => q.1.sameKey (.int .i64 (Go.intOf p.1))) = true := List.any_eq_true.2 ⟨p, hp, by rw [ha]; exact WideAt.sameKey_self (show WideAt.IsKeyLit (.int .i64 a) from trivial)⟩
      rw [h3] at h1
      exact of_decide_eq_true h1.symm
    · intro h0
      rw [decide_eq_true h0] at h1
      obtain ⟨p, hp, hs⟩ := List.any_eq_true.1 h1
      exact ⟨p, hp, by rw [WideAt.sameKey_eq hs]; rfl⟩
  · obtain ⟨p, hp, rfl⟩ := List.mem_map.1 hm
    obtain ⟨a, ha, hI⟩ := hk p hp
    rw [ha]; exact hI
end Go.Proofs.Yteegpbdkalpeiaa
