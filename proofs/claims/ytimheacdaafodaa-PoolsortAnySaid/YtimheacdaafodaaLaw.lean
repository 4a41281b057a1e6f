/- Layer 19's first law: what the two sides come to is one. No program. -/
import Derived.Test.YtimheacdaafodaaROrder
import Derived.Test.YtimheacdaafodaaRNumber
import Derived.Test.YtimheacdaafodaaRRaw
namespace Go.Proofs.Ytimheacdaafodaa

theorem raws_same {low all : List Pv} (h : Pv.errOf (low ++ all) = 0) : Pv.rawsOf (Pv.slots (Pv.ord low all)) = Pv.raws (Pv.ord low all) := by
  have hnm : Pv.refNum (Pv.slots (Pv.ord low all)) = Pv.num (Pv.ord low all) := funext fun v => Pv.refNum_slots _ v
  have hr : ∀ v ∈ Pv.ord low all, v.rawRef (Pv.num (Pv.ord low all)) = v.rawOf (Pv.num (Pv.ord low all)) := fun v hv => by
    refine Pv.raw_same (ok := 0) (kind := 9) (range := 5) (by decide) (by decide) ?_ _
    exact Pv.chk_cl (Pv.errOf_zero h) ((Pv.ord_mem low all v).1 hv)
  unfold Pv.rawsOf Pv.raws Pv.slots
  show Rw.zero :: Pv.rawGo (Pv.refNum (Pv.slots (Pv.ord low all))) Pv.zero true false _ = _
  rw [hnm, Pv.rawGo_same _ _ (Pv.ord_nodup low all) hr _ _ _ (.inl rfl)]
theorem few_len {l : List Pv} (h : Pv.few l = true) : l.length ≤ 40 := by
  unfold Pv.few at h
  simp only [Bool.and_eq_true, decide_eq_true_eq] at h
  exact h.2
end Go.Proofs.Ytimheacdaafodaa
