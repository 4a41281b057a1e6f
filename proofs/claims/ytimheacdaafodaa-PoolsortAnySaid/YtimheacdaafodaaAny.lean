/- Layer 19's third law, plain: the order and number of what is wanted changes nothing. No program. -/
import Derived.Test.YtimheacdaafodaaHolds
import Derived.Test.YtimheacdaafodaaOut
import Derived.Test.YtimheacdaafodaaNew
import Derived.Test.YtimheacdaafodaaLaw
namespace Go.Proofs.Ytimheacdaafodaa

theorem Pv.errOf_all : ∀ {l : List Pv}, (∀ v ∈ l, v.chk 0 9 5 = 0) → Pv.errOf l = 0
  | [], _ => rfl
  | v :: l, h => by
    unfold Pv.errOf
    rw [if_pos (h v (List.mem_cons_self ..))]
    exact Pv.errOf_all fun x hx => h x (List.mem_cons_of_mem _ hx)
theorem ord_like {low a b : List Pv} (h : ∀ x, x ∈ clAll (low ++ a) ↔ x ∈ clAll (low ++ b)) : Pv.ord low a = Pv.ord low b := by
  unfold Pv.ord
  refine congrArg _ (rises_uniq Pv.lin (sd_rises Pv.lin _) (sd_rises Pv.lin _) fun x => ?_)
  have e1 := Pv.rest_mem low a x
  have e2 := Pv.rest_mem low b x
  rw [e1, e2, h]
theorem cl_mono {a b : List Pv} (h : ∀ x ∈ a, x ∈ clAll b) {x : Pv} (hx : x ∈ clAll a) : x ∈ clAll b :=
  clAll_least (S := fun x => x ∈ clAll b) h (fun _ hx _ hy => clAll_closed hx hy) hx
theorem ord_same {low a b : List Pv} (h1 : ∀ x ∈ a, x ∈ clAll (low ++ b)) (h2 : ∀ x ∈ b, x ∈ clAll (low ++ a)) : Pv.ord low a = Pv.ord low b :=
  ord_like fun _ => ⟨fun hx => cl_mono (fun y hy => (List.mem_append.1 hy).elim (fun h => clAll_has (List.mem_append_left _ h)) (h1 y)) hx,
    fun hx => cl_mono (fun y hy => (List.mem_append.1 hy).elim (fun h => clAll_has (List.mem_append_left _ h)) (h2 y)) hx⟩
theorem err_same {low a b : List Pv} (h1 : ∀ x ∈ a, x ∈ clAll (low ++ b)) (h : Pv.errOf (low ++ b) = 0) : Pv.errOf (low ++ a) = 0 :=
  Pv.errOf_all fun v hv => Pv.chk_cl (Pv.errOf_zero h) ((List.mem_append.1 hv).elim (fun h => clAll_has (List.mem_append_left _ h)) (h1 v))
/-- Backwards, and then forwards. -/
def Pv.twice (all : List Pv) : List Pv := all.reverse ++ all
/-- Backwards, and then what each one needs. -/
def Pv.more (all : List Pv) : List Pv := all.reverse ++ all.flatMap Pv.needs
theorem twice_sub (low all : List Pv) : ∀ x ∈ Pv.twice all, x ∈ clAll (low ++ all) := fun x hx => by
  unfold Pv.twice at hx
  exact clAll_has (by simpa using Or.inr (by simpa using hx))
theorem sub_twice (low all : List Pv) : ∀ x ∈ all, x ∈ clAll (low ++ Pv.twice all) := fun x hx => clAll_has (by unfold Pv.twice; simp [hx])
theorem more_sub (low all : List Pv) : ∀ x ∈ Pv.more all, x ∈ clAll (low ++ all) := fun x hx => by
  unfold Pv.more at hx
  rcases List.mem_append.1 hx with h | h
  · exact clAll_has (List.mem_append_right _ (by simpa using h))
  · obtain ⟨v, hv, h⟩ := List.mem_flatMap.1 h
    exact clAll_closed (clAll_has (List.mem_append_right _ hv)) h
theorem sub_more (low all : List Pv) : ∀ x ∈ all, x ∈ clAll (low ++ Pv.more all) := fun x hx => clAll_has (by unfold Pv.more; simp [hx])
theorem twice_ord (low all : List Pv) : Pv.ord low (Pv.twice all) = Pv.ord low all := ord_same (twice_sub low all) (sub_twice low all)
theorem more_ord (low all : List Pv) : Pv.ord low (Pv.more all) = Pv.ord low all := ord_same (more_sub low all) (sub_more low all)
theorem twice_err (low all : List Pv) : Pv.errOf (low ++ Pv.twice all) = 0 ↔ Pv.errOf (low ++ all) = 0 := ⟨err_same (sub_twice low all), err_same (twice_sub low all)⟩
theorem more_err {low all : List Pv} (h : Pv.errOf (low ++ all) = 0) : Pv.errOf (low ++ Pv.more all) = 0 := err_same (more_sub low all) h
theorem few_text {l : List Pv} (h : Pv.few l = true) : ∀ v ∈ l, v.text.length ≤ 300 ∧ v.cls.length ≤ 300 ∧ v.name.length ≤ 300 ∧ v.desc.length ≤ 300 := fun v hv => by
  unfold Pv.few at h
  simp only [Bool.and_eq_true, List.all_eq_true, decide_eq_true_eq] at h
  have := h.1 v hv
  unfold Pv.small at this
  simp only [Bool.not_eq_true', decide_eq_false_iff_not, decide_eq_true_eq] at this
  omega
theorem small_needs {v x : Pv} (hv : v.text.length ≤ 300 ∧ v.cls.length ≤ 300 ∧ v.name.length ≤ 300 ∧ v.desc.length ≤ 300) (hx : x ∈ v.needs) : x.text.length ≤ 300 ∧ x.cls.length ≤ 300 ∧ x.name.length ≤ 300 ∧ x.desc.length ≤ 300 := by
  unfold Pv.needs at hx
  split at hx
  · simp only [List.mem_singleton] at hx
    subst hx
    simp [Pv.ofText]; omega
  · split at hx
    · simp only [List.mem_cons, List.not_mem_nil, or_false] at hx
      rcases hx with rfl | rfl <;> simp [Pv.ofText] <;> omega
    · split at hx
      · simp only [List.mem_cons, List.not_mem_nil, or_false] at hx
        rcases hx with rfl | rfl <;> simp [Pv.ofCls, Pv.ofPair] <;> omega
      · simp at hx
theorem raws_fit {low all : List Pv} (h1 : Pv.few low = true) (h2 : Pv.few all = true) (hf : ∀ v ∈ low ++ all, v.fits) : ∀ r ∈ Pv.raws (Pv.ord low all), r.fit := by
  have hsm : ∀ v ∈ Pv.ord low all, v.text.length ≤ 300 := fun v hv => (clAll_least (S := fun v => v.text.length ≤ 300 ∧ v.cls.length ≤ 300 ∧ v.name.length ≤ 300 ∧ v.desc.length ≤ 300)
    (fun x hx => (List.mem_append.1 hx).elim (few_text h1 x) (few_text h2 x)) (fun x hx y hy => small_needs hx hy) ((Pv.ord_mem low all v).1 hv)).1
  have hft : ∀ v ∈ Pv.ord low all, v.fits := fun v hv => Pv.fits_cl hf ((Pv.ord_mem low all v).1 hv)
  have hnum : ∀ v, Pv.num (Pv.ord low all) v ≤ 2 * (Pv.ord low all).length := fun v => by
    by_cases hv : v ∈ Pv.ord low all
    · have := numFrom_le (Pv.ord low all) 1 v hv
      unfold Pv.num
      omega
    · unfold Pv.num
      rw [Pv.numFrom_none hv]
      omega
  have hol := ord_len low all
  have l1 := few_len h1
  have l2 := few_len h2
  generalize Pv.ord low all = O at *
  intro r hr
  unfold Pv.raws at hr
  rcases List.mem_cons.1 hr with rfl | hr
  · exact ⟨by simp [Rw.zero], by simp [Rw.zero], by simp [Rw.zero], by simp [Rw.zero]⟩
  · obtain ⟨v, hv, hr⟩ := List.mem_flatMap.1 hr
    have hr2 : r = v.rawOf (Pv.num O) ∨ r = Rw.zero := by
      unfold Pv.raw1 at hr
      split at hr
      · simpa using hr
      · exact .inl (by simpa using hr)
    rcases hr2 with rfl | rfl
    · have n0 := hnum
      have ht := hsm v hv
      have hb := (hft v hv).2.1
      unfold Pv.rawOf
      split
      · exact ⟨by dsimp only; omega, hb, by dsimp only; omega, by dsimp only; omega⟩
      · rename_i x _
        have := hnum x
        exact ⟨by simp, hb, by dsimp only; omega, by dsimp only; omega⟩
      · rename_i x y _ _
        have := hnum x
        have := hnum y
        exact ⟨by simp, hb, by dsimp only; omega, by dsimp only; omega⟩
    · exact ⟨by simp [Rw.zero], by simp [Rw.zero], by simp [Rw.zero], by simp [Rw.zero]⟩
end Go.Proofs.Ytimheacdaafodaa
