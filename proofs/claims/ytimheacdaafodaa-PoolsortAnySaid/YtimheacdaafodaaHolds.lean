/- Layer 19's second law, plain: where each value lies among the constants of an order, and that the constants hold. No program. -/
import Derived.Test.YtimheacdaafodaaROrder
import Derived.Test.YtimheacdaafodaaRCheck
namespace Go.Proofs.Ytimheacdaafodaa

theorem frm_wide {v : Pv} (h : v.wide = true) : Pv.form v.tag = 56 := by
  unfold Pv.wide at h
  simp only [Bool.or_eq_true, beq_iff_eq] at h
  unfold Pv.form
  rcases h with h | h <;> simp [h]
theorem frm_thin {v : Pv} (h : v.wide = false) : Pv.form v.tag ≠ 56 := by
  unfold Pv.wide at h
  simp only [Bool.or_eq_false_iff, beq_eq_false_iff_ne] at h
  unfold Pv.form
  repeat' split
  all_goals first | decide | (rename_i e; rcases e with e | e; exact absurd e h.1; exact absurd e h.2)
theorem Pv.rawOf_tag (v : Pv) (nm : Pv → Nat) : (v.rawOf nm).tag = v.tag := by
  unfold Pv.rawOf
  split <;> rfl
theorem raw1_thin {v : Pv} (h : v.wide = false) (nm : Pv → Nat) : v.raw1 nm = [v.rawOf nm] := by unfold Pv.raw1; rw [h]; rfl
theorem raw1_wide {v : Pv} (h : v.wide = true) (nm : Pv → Nat) : v.raw1 nm = [v.rawOf nm, Rw.zero] := by unfold Pv.raw1; rw [h]; rfl
theorem raw1_head (v : Pv) (nm : Pv → Nat) : ∃ t, v.raw1 nm = v.rawOf nm :: t := by
  cases h : v.wide
  · exact ⟨_, raw1_thin h nm⟩
  · exact ⟨_, raw1_wide h nm⟩
theorem room_thin {v : Pv} (h : v.wide = false) : v.room = 1 := by unfold Pv.room; rw [h]; rfl
theorem room_wide {v : Pv} (h : v.wide = true) : v.room = 2 := by unfold Pv.room; rw [h]; rfl
/-- A constant that may be named: its number is not zero, and it is no second half. -/
def At (L : List Rw) (n : Nat) (e : Rw) : Prop := 1 ≤ n ∧ L[n]? = some e ∧ ∃ q, L[n - 1]? = some q ∧ Pv.form q.tag ≠ 56
theorem at_from (nm : Pv → Nat) : ∀ (l : List Pv) (p : Rw), Pv.form p.tag ≠ 56 → ∀ (n : Nat) (v : Pv), v ∈ l → ∃ k, Pv.numFrom n l v = n + k ∧ (l.flatMap (Pv.raw1 nm))[k]? = some (v.rawOf nm) ∧ ∃ q, (p :: l.flatMap (Pv.raw1 nm))[k]? = some q ∧ Pv.form q.tag ≠ 56
  | [], _, _, _, _, h => by simp at h
  | u :: l, p, hp, n, v, h => by
    rw [List.flatMap_cons]
    unfold Pv.numFrom
    by_cases e : u = v
    · subst e
      rw [if_pos rfl]
      refine ⟨0, rfl, ?_, p, rfl, hp⟩
      obtain ⟨t, ht⟩ := raw1_head u nm
      rw [ht]
      rfl
    · rw [if_neg e]
      have hm : v ∈ l := (List.mem_cons.1 h).resolve_left fun h => e h.symm
      cases hw : u.wide
      · rw [raw1_thin hw, room_thin hw]
        obtain ⟨k, h1, h2, q, h3, h4⟩ := at_from nm l (u.rawOf nm) (by rw [Pv.rawOf_tag]; exact frm_thin hw) (n + 1) v hm
        refine ⟨k + 1, by omega, ?_, q, ?_, h4⟩
        · simpa using h2
        · simpa using h3
      · rw [raw1_wide hw, room_wide hw]
        obtain ⟨k, h1, h2, q, h3, h4⟩ := at_from nm l Rw.zero (by decide) (n + 2) v hm
        refine ⟨k + 2, by omega, ?_, q, ?_, h4⟩
        · simpa using h2
        · simpa using h3
theorem raws_at {O : List Pv} {v : Pv} (h : v ∈ O) : At (Pv.raws O) (Pv.num O v) (v.rawOf (Pv.num O)) := by
  obtain ⟨k, h1, h2, q, h3, h4⟩ := at_from (Pv.num O) O Rw.zero (by decide) 1 v h
  have e : Pv.num O v = k + 1 := by unfold Pv.num; omega
  refine ⟨by omega, ?_, q, ?_, h4⟩
  · rw [e]; unfold Pv.raws; simpa using h2
  · rw [e]; unfold Pv.raws; simpa using h3
/-- What each place holds. -/
theorem each_from (nm : Pv → Nat) : ∀ (l : List Pv) (p : Rw), Pv.form p.tag ≠ 56 → ∀ (i : Nat) (e : Rw), (l.flatMap (Pv.raw1 nm))[i]? = some e → ∃ q, (p :: l.flatMap (Pv.raw1 nm))[i]? = some q ∧ (Pv.form q.tag = 56 ∧ e = Rw.zero ∨ Pv.form q.tag ≠ 56 ∧ ∃ v ∈ l, e = v.rawOf nm)
  | [], _, _, i, e, h => by simp at h
  | u :: l, p, hp, i, e, h => by
    rw [List.flatMap_cons] at h ⊢
    cases hw : u.wide
    · rw [raw1_thin hw] at h ⊢
      simp only [List.cons_append, List.nil_append] at h ⊢
      cases i with
      | zero =>
        simp at h
        exact ⟨p, rfl, .inr ⟨hp, u, List.mem_cons_self .., h.symm⟩⟩
      | succ i =>
        obtain ⟨q, h1, h2⟩ := each_from nm l (u.rawOf nm) (by rw [Pv.rawOf_tag]; exact frm_thin hw) i e (by simpa using h)
        refine ⟨q, by simpa using h1, h2.imp_right fun ⟨h3, v, hv, h4⟩ => ⟨h3, v, List.mem_cons_of_mem _ hv, h4⟩⟩
    · rw [raw1_wide hw] at h ⊢
      simp only [List.cons_append, List.nil_append] at h ⊢
      match i with
      | 0 =>
        simp at h
        exact ⟨p, rfl, .inr ⟨hp, u, List.mem_cons_self .., h.symm⟩⟩
      | 1 =>
        simp at h
        exact ⟨u.rawOf nm, rfl, .inl ⟨by rw [Pv.rawOf_tag]; exact frm_wide hw, h.symm⟩⟩
      | i + 2 =>
        obtain ⟨q, h1, h2⟩ := each_from nm l Rw.zero (by decide) i e (by simpa using h)
        refine ⟨q, by simpa using h1, h2.imp_right fun ⟨h3, v, hv, h4⟩ => ⟨h3, v, List.mem_cons_of_mem _ hv, h4⟩⟩
theorem last_from (nm : Pv → Nat) : ∀ (l : List Pv) (p : Rw), Pv.form p.tag ≠ 56 → ∃ q, (p :: l.flatMap (Pv.raw1 nm))[(l.flatMap (Pv.raw1 nm)).length]? = some q ∧ Pv.form q.tag ≠ 56
  | [], p, hp => ⟨p, rfl, hp⟩
  | u :: l, p, hp => by
    rw [List.flatMap_cons]
    cases hw : u.wide
    · rw [raw1_thin hw]
      obtain ⟨q, h1, h2⟩ := last_from nm l (u.rawOf nm) (by rw [Pv.rawOf_tag]; exact frm_thin hw)
      exact ⟨q, by simpa only [List.cons_append, List.nil_append, List.length_cons, List.getElem?_cons_succ] using h1, h2⟩
    · rw [raw1_wide hw]
      obtain ⟨q, h1, h2⟩ := last_from nm l Rw.zero (by decide)
      exact ⟨q, by simpa only [List.cons_append, List.nil_append, List.length_cons, List.getElem?_cons_succ] using h1, h2⟩
theorem numFrom_le : ∀ (l : List Pv) (n : Nat) (v : Pv), v ∈ l → Pv.numFrom n l v + 2 ≤ n + 2 * l.length
  | [], _, _, h => by simp at h
  | u :: l, n, v, h => by
    unfold Pv.numFrom
    by_cases e : u = v
    · rw [if_pos e, List.length_cons]; omega
    · rw [if_neg e, List.length_cons]
      have hm : v ∈ l := (List.mem_cons.1 h).resolve_left fun h => e h.symm
      have := numFrom_le l (n + u.room) v hm
      have : u.room ≤ 2 := by unfold Pv.room; split <;> omega
      omega
theorem low_le {low all : List Pv} {v : Pv} (h : v ∈ low) : Pv.num (Pv.ord low all) v ≤ 2 * low.length := by
  unfold Pv.num Pv.ord
  have h1 : v ∈ sd Pv.lt low := (sd_mem Pv.lin _ _).2 h
  rw [Pv.numFrom_app, if_pos h1]
  have h2 := numFrom_le (sd Pv.lt low) 1 v h1
  have h3 : (sd Pv.lt low).length ≤ ([] : List Pv).length + low.length := putO_fold_len low []
  simp only [List.length_nil] at h3
  omega
theorem ord_has {low all : List Pv} {v : Pv} (h : v ∈ low ++ all) : v ∈ Pv.ord low all := (Pv.ord_mem low all v).2 (clAll_has h)
theorem ord_closed {low all : List Pv} {v x : Pv} (h : v ∈ Pv.ord low all) (hx : x ∈ v.needs) : x ∈ Pv.ord low all := (Pv.ord_mem low all x).2 (clAll_closed ((Pv.ord_mem low all v).1 h) hx)
theorem ord_chk {low all : List Pv} (h : Pv.errOf (low ++ all) = 0) {v : Pv} (hv : v ∈ Pv.ord low all) : v.chk 0 9 5 = 0 := Pv.chk_cl (Pv.errOf_zero h) ((Pv.ord_mem low all v).1 hv)
end Go.Proofs.Ytimheacdaafodaa
