/- Layer 25 in plain words: the numbers that come most often. No program. -/
import Derived.Test.YteegpbdkalpeiaaPlainB
namespace Go.Proofs.Yteegpbdkalpeiaa
open Go.RowKit

/-- a stands ahead of b: it comes more often, or as often and is less. -/
def Po.bef (l : List Int) (a b : Int) : Prop := l.count b < l.count a ∨ (l.count a = l.count b ∧ a < b)
instance (l : List Int) (a b : Int) : Decidable (Po.bef l a b) := by unfold Po.bef; infer_instance
/-- No candidate. -/
def Po.no (l out : List Int) (v : Int) : Prop := l.count v < 2 ∨ 0 < out.count v
instance (l out : List Int) (v : Int) : Decidable (Po.no l out v) := by unfold Po.no; infer_instance
/-- One number more is looked at. -/
def Po.pick (l out : List Int) (acc : Option Int) (v : Int) : Option Int :=
  if Po.no l out v then acc else if ∃ b, acc = some b ∧ ¬ Po.bef l v b then acc else some v
def Po.next (l out : List Int) (xs : List Int) : Option Int := xs.foldl (Po.pick l out) none
theorem Po.next_snoc (l out xs : List Int) (v : Int) : Po.next l out (xs ++ [v]) = Po.pick l out (Po.next l out xs) v := by
  unfold Po.next; rw [List.foldl_append]; rfl
def Po.favs (l : List Int) : Nat → List Int
  | 0 => []
  | k + 1 => Po.favs l k ++ (Po.next l (Po.favs l k) l).toList
theorem Po.favs_succ (l : List Int) (k : Nat) : Po.favs l (k + 1) = Po.favs l k ++ (Po.next l (Po.favs l k) l).toList := rfl
theorem Po.favs_stay {l : List Int} {k : Nat} (h : Po.next l (Po.favs l k) l = none) : ∀ j, Po.favs l (k + j) = Po.favs l k
  | 0 => rfl
  | j + 1 => by rw [← Nat.add_assoc, Po.favs_succ, Po.favs_stay h j, h]; simp
theorem Po.bef_trans {l : List Int} {a b c : Int} (h : Po.bef l a b) (k : Po.bef l b c) : Po.bef l a c := by unfold Po.bef at *; omega
theorem Po.bef_asymm {l : List Int} {a b : Int} (h : Po.bef l a b) : ¬ Po.bef l b a := by unfold Po.bef at *; omega
theorem Po.bef_total {l : List Int} {a b : Int} (h : ¬ Po.bef l a b) : a = b ∨ Po.bef l b a := by unfold Po.bef at *; omega
theorem Po.bef_irrefl {l : List Int} {a : Int} : ¬ Po.bef l a a := by unfold Po.bef; omega
/-- What is picked. -/
def Po.Best (l out xs : List Int) : Option Int → Prop
  | none => ∀ v ∈ xs, Po.no l out v
  | some b => b ∈ xs ∧ ¬ Po.no l out b ∧ ∀ v ∈ xs, Po.no l out v ∨ v = b ∨ Po.bef l b v
theorem Po.best_step {l out xs : List Int} {r : Option Int} {v : Int} (h : Po.Best l out xs r) : Po.Best l out (xs ++ [v]) (Po.pick l out r v) := by
  unfold Po.pick
  by_cases hno : Po.no l out v
  · rw [if_pos hno]
    cases r with
    | none =>
      intro x hx
      rcases List.mem_append.1 hx with h1 | h1
      · exact h x h1
      · rw [List.mem_singleton] at h1; subst h1; exact hno
    | some b =>
      refine ⟨List.mem_append_left _ h.1, h.2.1, fun x hx => ?_⟩
      rcases List.mem_append.1 hx with h1 | h1
      · exact h.2.2 x h1
      · rw [List.mem_singleton] at h1; subst h1; exact .inl hno
  · rw [if_neg hno]
    cases r with
    | none =>
      rw [if_neg (by rintro ⟨b, hb, _⟩; cases hb)]
      refine ⟨by simp, hno, fun x hx => ?_⟩
      rcases List.mem_append.1 hx with h1 | h1
      · exact .inl (h x h1)
      · rw [List.mem_singleton] at h1; exact .inr (.inl h1)
    | some b =>
      by_cases hb : Po.bef l v b
      · rw [if_neg (by rintro ⟨c, hc, h2⟩; cases hc; exact h2 hb)]
        refine ⟨by simp, hno, fun x hx => ?_⟩
        rcases List.mem_append.1 hx with h1 | h1
        · rcases h.2.2 x h1 with h2 | rfl | h2
          · exact .inl h2
          · exact .inr (.inr hb)
          · exact .inr (.inr (Po.bef_trans hb h2))
        · rw [List.mem_singleton] at h1; exact .inr (.inl h1)
      · rw [if_pos ⟨b, rfl, hb⟩]
        refine ⟨List.mem_append_left _ h.1, h.2.1, fun x hx => ?_⟩
        rcases List.mem_append.1 hx with h1 | h1
        · exact h.2.2 x h1
        · rw [List.mem_singleton] at h1; subst h1
          rcases Po.bef_total hb with h2 | h2
          · exact .inr (.inl h2)
          · exact .inr (.inr h2)
theorem Po.best (l out : List Int) : ∀ (n : Nat) (xs : List Int), xs.length = n → Po.Best l out xs (Po.next l out xs)
  | 0, xs, h => by rw [List.eq_nil_of_length_eq_zero h]; intro v hv; simp at hv
  | n + 1, xs, h => by
    obtain ⟨ys, y, rfl⟩ : ∃ ys y, xs = ys ++ [y] := ⟨xs.dropLast, xs.getLast (by intro e; rw [e] at h; simp at h), (List.dropLast_concat_getLast _).symm⟩
    rw [Po.next_snoc]
    exact Po.best_step (Po.best l out n ys (by simp at h; exact h))
/-- The favorites, all of them, in their order. -/
def Po.Is (l S : List Int) : Prop := S.Pairwise (Po.bef l) ∧ ∀ v, v ∈ S ↔ 2 ≤ l.count v
theorem Po.favs_take {l S : List Int} (h : Po.Is l S) : ∀ k, Po.favs l k = S.take k
  | 0 => rfl
  | k + 1 => by
    have ih := Po.favs_take h k
    have hb := Po.best l (Po.favs l k) l.length l rfl
    rw [Po.favs_succ]
    rw [ih] at hb ⊢
    by_cases hk : k < S.length
    · have hs : S[k]? = some S[k] := List.getElem?_eq_getElem hk
      have htk := take_snocI S k _ hs
      have hdr := (List.drop_eq_getElem_cons hk)
      have hsplit : S = S.take k ++ S[k] :: S.drop (k + 1) := by rw [← hdr, List.take_append_drop]
      have hp := h.1
      rw [hsplit, List.pairwise_append] at hp
      have hp2 := List.pairwise_cons.1 hp.2.1
      have hin : 2 ≤ l.count S[k] := (h.2 _).1 (List.getElem_mem hk)
      have hnot : (S.take k).count S[k] = 0 := List.count_eq_zero_of_not_mem (fun hm => Po.bef_irrefl (hp.2.2 _ hm _ (List.mem_cons_self ..)))
      have hno : ¬ Po.no l (S.take k) S[k] := by unfold Po.no; omega
      have hml : S[k] ∈ l := List.count_pos_iff.1 (by omega)
      cases hn : Po.next l (S.take k) l with
      | none => rw [hn] at hb; exact absurd (hb _ hml) hno
      | some b =>
        rw [hn] at hb
        obtain ⟨h1, h2, h3⟩ := hb
        have hbS : b ∈ S := (h.2 b).2 (by unfold Po.no at h2; omega)
        have hbn : b ∉ S.take k := fun hm => h2 (.inr (List.count_pos_iff.2 hm))
        have e : b = S[k] := by
          rcases h3 _ hml with h4 | h4 | h4
          · exact absurd h4 hno
          · exact h4.symm
          · rw [hsplit] at hbS
            rcases List.mem_append.1 hbS with h5 | h5
            · exact absurd h5 hbn
            · rcases List.mem_cons.1 h5 with h6 | h6
              · exact h6
              · exact absurd h4 (Po.bef_asymm (hp2.1 b h6))
        rw [htk, e]; rfl
    · have e1 : S.take k = S := List.take_of_length_le (by omega)
      have e2 : S.take (k + 1) = S := List.take_of_length_le (by omega)
      rw [e1] at hb
      rw [e1, e2]
      cases hn : Po.next l S l with
      | none => simp
      | some b =>
        rw [hn] at hb
        have hbS : b ∈ S := (h.2 b).2 (by have := hb.2.1; unfold Po.no at this; omega)
        exact absurd (.inr (List.count_pos_iff.2 hbS)) hb.2.1
/-- What is picked comes at least twice, and is new. -/
theorem Po.favs_facts (l : List Int) : ∀ k, (Po.favs l k).Nodup ∧ ∀ v ∈ Po.favs l k, 2 ≤ l.count v
  | 0 => ⟨List.nodup_nil, fun v hv => by simp [Po.favs] at hv⟩
  | k + 1 => by
    obtain ⟨h1, h2⟩ := Po.favs_facts l k
    have hb := Po.best l (Po.favs l k) l.length l rfl
    rw [Po.favs_succ]
    cases hn : Po.next l (Po.favs l k) l with
    | none => simpa using ⟨h1, h2⟩
    | some b =>
      rw [hn] at hb
      have hb2 := hb.2.1
      unfold Po.no at hb2
      rw [show (some b).toList = [b] from rfl, nodup_snoc]
      refine ⟨⟨h1, fun hm => hb2 (.inr (List.count_pos_iff.2 hm))⟩, fun v hv => ?_⟩
      rcases List.mem_append.1 hv with h3 | h3
      · exact h2 v h3
      · rw [List.mem_singleton] at h3; subst h3; omega
theorem length_le_sub : ∀ (xs l : List Int), xs.Nodup → (∀ v ∈ xs, v ∈ l) → xs.length ≤ l.length
  | [], _, _, _ => Nat.zero_le _
  | x :: xs, l, hn, hm => by
    rw [List.nodup_cons] at hn
    have hx := hm x (List.mem_cons_self ..)
    have := length_le_sub xs (l.erase x) hn.2 (fun v hv => (List.mem_erase_of_ne (show v ≠ x from fun e => hn.1 (by rw [← e]; exact hv))).2 (hm v (List.mem_cons_of_mem _ hv)))
    rw [List.length_erase_of_mem hx] at this
    have := List.length_pos_of_mem hx
    simp only [List.length_cons]
    omega
theorem Po.favs_le (l : List Int) (k : Nat) : (Po.favs l k).length ≤ l.length :=
  length_le_sub _ _ (Po.favs_facts l k).1 (fun v hv => List.count_pos_iff.1 (by have := (Po.favs_facts l k).2 v hv; omega))
end Go.Proofs.Yteegpbdkalpeiaa
