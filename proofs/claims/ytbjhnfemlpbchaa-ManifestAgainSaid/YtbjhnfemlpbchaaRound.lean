/- Regions that draw their order, within a round of a range over a function: walked as anywhere (XOrder). No program. -/
import Derived.Test.YtbjhnfemlpbchaaOrder
import Derived.OwnWalkIn
import Derived.RangeFuncCalls
namespace Go.Proofs.Ytbjhnfemlpbchaa
open Go.RowKit
section
variable {P : Program} {ops : Array Oper} {Q : Exit → Act → World → Prop} {md : Region.Mode}

theorem wp_round {o : Oper} {a : Act} {w : World} {K : Act → World → Prop} {l m : Nat} (hd : ∀ c, o.op ≠ .defer c) (h : o.wp P a w K Q) : o.wpIn (Fence.wide.inRound l) m P a w K Q := by
  refine ⟨fun _ _ => trivial, ?_⟩
  rw [Oper.semAt_plain _ _ _ hd]
  unfold Oper.wp at h
  revert h
  generalize (execOp a.eval o).run P w = r
  intro h
  cases r with
  | ok x w' =>
    cases x with
    | value v => exact h
    | skip => exact h
    | defer d => exact h
    | enter f args => exact ⟨fun hs => absurd hs (by simp [Fence.wide]), CallsIn.inRound l (callsIn_wide.2 h)⟩
    | row row args => exact ⟨fun hs => absurd hs (by simp [Fence.wide]), fun c cs _ => let ⟨v, w', hr, hs⟩ := h c cs; ⟨v, w', hr, stepsIn_wide.2 hs⟩⟩
    | _ => exact h.elim
  | halt x w' =>
    cases x <;> first | exact h | exact h.elim

theorem any_round {l m : Nat} (hd : ∀ (i : Nat) o, ops[i]? = some o → ∀ c, o.op ≠ .defer c) (hno : ¬ LetsOut Q) : ∀ (f : Nat) (listed : Array Bool) (a : Act) (w : World), wpAny P md ops Q f listed a w → wpAnyIn (Fence.wide.inRound l) m P md ops Q f listed a w
  | 0, _, _, _, h => h
  | f + 1, listed, a, w, h => by
    refine ⟨h.1, fun i hi => ?_⟩
    have h1 := h.2 i hi
    unfold wpOp at h1
    unfold wpOpIn
    split
    · rename_i ho
      rw [ho] at h1
      exact any_round hd hno f _ _ _ h1
    · rename_i o ho
      rw [ho] at h1
      simp only at h1
      split
      · rename_i hw
        rw [if_pos hw] at h1
        rcases h1 with h1 | h1
        · exact Oper.wpIn_mono (fun a w h => any_round hd hno f _ _ _ h) (wp_round (hd i o ho) h1)
        · exact absurd h1.2 hno
      · rename_i hw
        rw [if_neg hw] at h1
        exact ⟨fun _ _ => trivial, any_round hd hno f _ _ _ h1⟩

/-- As wp_region_ord, within a round. -/
theorem wpIn_region_ord {l0 m id : Nat} {a : Act} {w : World} {l : List Oper} (n : Nat) (hm : P.follows .mixedOrders = true) (hB : ordB .any l.toArray n = true)
    (hQ : ∀ c a d v w, Q (.panic c) (a.put d v) w → Q (.panic c) a w) (hd : l.all (fun o => match o.op with | .defer _ => false | _ => true) = true) (hno : ¬ LetsOut Q)
    (h : wpLex P l.toArray Q w.drew (l.drop n) (l.take n) Env.none a) : (Code.region id l.toArray true).wpIn (Fence.wide.inRound l0) m P Q a w := by
  simp only [ordB, Bool.and_eq_true, decide_eq_true_eq] at hB
  obtain ⟨⟨⟨hsel, hn⟩, hl⟩, hh⟩ := hB
  have hn' : n ≤ l.length := by simpa using hn
  have htl : (l.take n).length = n := by simp; omega
  have hdl : (l.drop n).length = l.toArray.size - n := by simp
  have H := AO.lex (md := .any) (g := l.toArray.size - n) hsel hQ hl (fun j => by simp [List.getElem?_drop]) hdl (l.take n) 0 _ Env.none a (Closed.none _) (fun j hj => by
    have hj' : j < n := by rw [htl] at hj; exact hj
    simp [hj']) (by simpa using htl) (by rw [htl]; exact hh) h
  refine wpIn_region_any hm (any_round (fun i o hi c hc => ?_) hno _ _ _ _ ?_)
  · have hi' : l[i]? = some o := by simpa using hi
    have := List.all_eq_true.1 hd o (List.mem_of_getElem? hi')
    rw [hc] at this
    cases this
  · have := AO.any _ _ _ _ w.drew H ⟨Below.refl _ _, fun s B o e => e.elim⟩
    rw [htl, show n + (l.toArray.size - n) = l.toArray.size by omega] at this
    exact this
end
end Go.Proofs.Ytbjhnfemlpbchaa
