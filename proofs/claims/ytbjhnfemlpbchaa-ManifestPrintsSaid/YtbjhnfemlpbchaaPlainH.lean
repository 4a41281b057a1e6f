/- Layer 14 in plain words: what is printed is read as it was; what is read may be printed. No program. -/
import Derived.Test.YtbjhnfemlpbchaaPlainF
import Derived.Test.YtbjhnfemlpbchaaPlainG
namespace Go.Proofs.Ytbjhnfemlpbchaa
open Go.RowKit

/-! ### Names and values -/
theorem Ma.signOk_ne {f : Bool} {c : UInt8} (h : Ma.signOk f c = true) : c ≠ 58 ∧ c ≠ 10 ∧ c ≠ 32 := by
  refine ⟨?_, ?_, ?_⟩ <;> rintro rfl <;> cases f <;> revert h <;> decide
theorem Ma.signs_ne : ∀ {l : List UInt8} {f : Bool}, Ma.signs f l = true → ∀ c ∈ l, c ≠ 58 ∧ c ≠ 10 ∧ c ≠ 32
  | [], _, _, c, hc => by cases hc
  | a :: l, f, h, c, hc => by
    simp only [Ma.signs, Bool.and_eq_true] at h
    rcases List.mem_cons.1 hc with rfl | hc
    · exact Ma.signOk_ne h.1
    · exact Ma.signs_ne h.2 c hc
theorem Ma.name_ne {l : List UInt8} (h : Ma.name l = true) : (∀ c ∈ l, c ≠ 58 ∧ c ≠ 10 ∧ c ≠ 32) ∧ 1 ≤ l.length ∧ l.length ≤ 70 := by
  simp only [Ma.name, Bool.and_eq_true, decide_eq_true_eq] at h
  exact ⟨Ma.signs_ne h.1.1, h.1.2, h.2⟩
theorem Ma.value_ne {l : List UInt8} (h : Ma.value l = true) : ∀ c ∈ l, c ≠ 10 := by
  intro c hc hh
  have := List.all_eq_true.1 h c hc
  rw [hh] at this
  revert this; decide
theorem Ma.take_zero {main : Bool} {ps : List Pr} {p : Pr} (h : Ma.take main ps p = 0) : Ma.value p.2 = true ∧ Ma.name p.1 = true := by
  unfold Ma.take at h
  split at h
  · cases h
  · rename_i h1
    split at h
    · cases h
    · rename_i h2
      refine ⟨by simpa using h1, ?_⟩
      cases hn : Ma.name p.1 with
      | true => rfl
      | false => exact absurd (.inl hn) h2
/-- A header that may be. -/
def Ma.okP (p : Pr) : Prop := Ma.value p.2 = true ∧ Ma.name p.1 = true
theorem Ma.secErr_ok (main : Bool) : ∀ (s a : List Pr), Ma.secErr main a s = 0 → ∀ p ∈ s, Ma.okP p
  | [], _, _, p, hp => by cases hp
  | q :: s, a, h, p, hp => by
    rw [Ma.secErr] at h
    by_cases ht : Ma.take main a q = 0
    · rw [if_neg (by omega)] at h
      rcases List.mem_cons.1 hp with rfl | hp
      · exact Ma.take_zero ht
      · exact Ma.secErr_ok main s _ h p hp
    · rw [if_pos ht] at h; exact absurd h ht
theorem Ma.manErr_ok : ∀ (ss : List (List Pr)) (m : Bool), Ma.manErr m ss = 0 → ∀ s ∈ ss, s ≠ [] ∧ ∀ p ∈ s, Ma.okP p
  | [], _, _, s, hs => by cases hs
  | x :: ss, m, h, s, hs => by
    rw [Ma.manErr] at h
    by_cases hx : x = []
    · rw [if_pos hx] at h; cases h
    · rw [if_neg hx] at h
      by_cases he : Ma.secErr m [] x = 0
      · rw [if_neg (by omega)] at h
        rcases List.mem_cons.1 hs with rfl | hs
        · exact ⟨hx, Ma.secErr_ok m _ _ he⟩
        · exact Ma.manErr_ok ss false h s hs
      · rw [if_pos he] at h; exact absurd h he

/-! ### A header's line -/
theorem Ma.line_ne {p : Pr} (h : Ma.okP p) : (∀ c ∈ Ma.lineOf p, c ≠ 10) ∧ Ma.lineOf p ≠ [] ∧ (Ma.lineOf p).head? ≠ some 32 := by
  obtain ⟨h1, h2, _⟩ := Ma.name_ne h.2
  have h3 := Ma.value_ne h.1
  obtain ⟨n, v⟩ := p
  simp only at h1 h2 h3
  refine ⟨fun c hc => ?_, by unfold Ma.lineOf; simp, ?_⟩
  · unfold Ma.lineOf at hc
    rcases List.mem_append.1 hc with hc | hc
    · rcases List.mem_append.1 hc with hc | hc
      · exact (h1 c hc).2.1
      · simp only [List.mem_cons, List.not_mem_nil, or_false] at hc
        rcases hc with rfl | rfl <;> decide
    · exact h3 c hc
  · cases n with
    | nil => simp at h2
    | cons a n =>
      unfold Ma.lineOf
      simp only [List.cons_append, List.head?_cons]
      intro e
      injection e with e
      exact (h1 a (List.mem_cons_self ..)).2.2 e
theorem Ma.header_line {p : Pr} (h : Ma.okP p) : Ma.header (Ma.lineOf p) = some p := by
  obtain ⟨h1, _, _⟩ := Ma.name_ne h.2
  obtain ⟨n, v⟩ := p
  simp only at h1
  have e : Ma.lineOf (n, v) = n ++ ([58, 32] ++ v) := by unfold Ma.lineOf; simp
  rw [e]
  have hh := Ma.header_hit (l := n ++ ([58, 32] ++ v)) (i := n.length) (fun j hj => ?_) (Ma.occ_iff.2 ⟨by simp, by simp⟩)
  · rw [hh]
    simp
  · rw [Bool.eq_false_iff]
    intro ho
    have h2 := (Ma.occ_iff.1 ho).1
    rw [List.getElem?_append_left hj] at h2
    exact (h1 58 (List.mem_of_getElem? h2)).1 rfl
theorem Ma.header_len {l : List UInt8} {p : Pr} (h : Ma.header l = some p) : (Ma.lineOf p).length = l.length := by
  unfold Ma.header Lib.cut at h
  rcases Lib.index_spec l [58, 32] with ⟨h2, _⟩ | ⟨k, h2, _, h4, _⟩
  · rw [h2] at h; simp at h
  · have := (List.getElem?_eq_some_iff.1 (Ma.occ_iff.1 h4).2).1
    rw [h2] at h
    simp at h
    subst h
    unfold Ma.lineOf
    simp
    omega

/-! ### Lines, printed, are read as they were -/
theorem Ma.cutA_line : ∀ (l : List UInt8) (a rest : List UInt8), (∀ c ∈ l, c ≠ 10) → Ma.cutA a (l ++ 10 :: rest) = (a ++ l ++ [10]) :: Ma.cutA [] rest
  | [], a, rest, _ => by
    rw [List.nil_append, Ma.cutA, if_pos rfl]; simp
  | c :: l, a, rest, h => by
    rw [List.cons_append, Ma.cutA, if_neg (h c (List.mem_cons_self ..)), Ma.cutA_line l _ rest fun x hx => h x (List.mem_cons_of_mem _ hx)]
    simp
theorem Ma.cuts_text : ∀ (ls : List (List UInt8)), (∀ l ∈ ls, ∀ c ∈ l, c ≠ 10) → Ma.cuts (Ma.foldText ls) = ls.map fun l => l ++ [13, 10]
  | [], _ => rfl
  | l :: ls, h => by
    have ih := Ma.cuts_text ls fun x hx => h x (List.mem_cons_of_mem _ hx)
    have e : Ma.foldText (l :: ls) = (l ++ [13]) ++ 10 :: Ma.foldText ls := by unfold Ma.foldText; simp
    unfold Ma.cuts at ih ⊢
    rw [e, Ma.cutA_line _ _ _ ?_, ih]
    · simp
    · intro c hc
      rcases List.mem_append.1 hc with hc | hc
      · exact h l (List.mem_cons_self ..) c hc
      · simp at hc; subst hc; decide
theorem Ma.foldT_mem : ∀ (k : Nat) (r : List UInt8), ∀ l ∈ Ma.foldT k r, ∀ c ∈ l, c = 32 ∨ c ∈ r
  | 0, _, l, h, _, _ => by simp [Ma.foldT] at h
  | k + 1, r, l, h, c, hc => by
    unfold Ma.foldT at h
    split at h
    · cases h
    · rcases List.mem_cons.1 h with rfl | h
      · rcases List.mem_cons.1 hc with rfl | hc
        · exact .inl rfl
        · exact .inr (List.mem_of_mem_take hc)
      · rcases Ma.foldT_mem k _ l h c hc with h | h
        · exact .inl h
        · exact .inr (List.mem_of_mem_drop h)
theorem Ma.fold_mem (r : List UInt8) : ∀ l ∈ Ma.fold r, ∀ c ∈ l, c = 32 ∨ c ∈ r := by
  intro l h c hc
  unfold Ma.fold at h
  split at h
  · rw [List.mem_singleton] at h; subst h; exact .inr hc
  · rcases List.mem_cons.1 h with rfl | h
    · exact .inr (List.mem_of_mem_take hc)
    · rcases Ma.foldT_mem _ _ l h c hc with h | h
      · exact .inl h
      · exact .inr (List.mem_of_mem_drop h)
theorem Ma.run_more : ∀ (k : Nat) (r : List UInt8) (out : List (List (List UInt8))) (now : List (List UInt8)) (acc : List UInt8), r.length ≤ k →
    (Ma.foldT k r).foldl Ma.runS (0, out, now ++ [acc]) = (0, out, now ++ [acc ++ r])
  | 0, r, out, now, acc, h => by
    obtain rfl : r = [] := List.eq_nil_of_length_eq_zero (by omega)
    simp [Ma.foldT]
  | k + 1, r, out, now, acc, h => by
    unfold Ma.foldT
    by_cases hr : r = []
    · subst hr; simp
    · rw [if_neg hr, List.foldl_cons]
      have e : Ma.runS (0, out, now ++ [acc]) (32 :: r.take 71) = (0, out, now ++ [acc ++ r.take 71]) := by
        unfold Ma.runS
        rw [if_neg (by simp)]
        unfold Ma.put
        rw [if_neg (by simp only [List.length_cons, List.length_take]; omega), if_neg (by simp), if_neg (by simp), if_neg (by simp)]
        simp
      have hp : 0 < r.length := List.length_pos_iff.2 hr
      rw [e, Ma.run_more k (r.drop 71) out now _ (by rw [List.length_drop]; omega)]
      simp
theorem Ma.run_fold {L : List UInt8} (h0 : L ≠ []) (h1 : L.head? ≠ some 32) (out : List (List (List UInt8))) (now : List (List UInt8)) : (Ma.fold L).foldl Ma.runS (0, out, now) = (0, out, now ++ [L]) := by
  unfold Ma.fold
  split
  · rename_i h
    rw [List.foldl_cons, List.foldl_nil]
    unfold Ma.runS
    rw [if_neg (by simp)]
    unfold Ma.put
    rw [if_neg (by omega), if_neg h0, if_pos h1]
  · rename_i h
    rw [List.foldl_cons]
    have e : Ma.runS (0, out, now) (L.take 72) = (0, out, now ++ [L.take 72]) := by
      unfold Ma.runS
      rw [if_neg (by simp)]
      unfold Ma.put
      rw [if_neg (by rw [List.length_take]; omega), if_neg (fun e => ?_), if_pos ?_]
      · cases L with
        | nil => exact absurd rfl h0
        | cons a L => simpa using h1
      · have := congrArg List.length e
        rw [List.length_take, List.length_nil] at this
        omega
    rw [e, Ma.run_more _ _ _ _ _ (by rw [List.length_drop]; omega)]
    simp
def Ma.pairLines (ps : List Pr) : List (List UInt8) := ps.flatMap fun p => Ma.fold (Ma.lineOf p)
def Ma.allLines (ss : List (List Pr)) : List (List UInt8) := ss.flatMap fun s => Ma.pairLines s ++ [[]]
theorem Ma.foldText_app (a b : List (List UInt8)) : Ma.foldText (a ++ b) = Ma.foldText a ++ Ma.foldText b := by unfold Ma.foldText; rw [List.flatMap_append]
theorem Ma.pairsText_lines : ∀ ps : List Pr, Ma.pairsText ps = Ma.foldText (Ma.pairLines ps)
  | [] => rfl
  | p :: ps => by
    have ih := Ma.pairsText_lines ps
    have e1 : Ma.pairsText (p :: ps) = Ma.pairText p ++ Ma.pairsText ps := by unfold Ma.pairsText; rw [List.flatMap_cons]
    have e2 : Ma.pairLines (p :: ps) = Ma.fold (Ma.lineOf p) ++ Ma.pairLines ps := by unfold Ma.pairLines; rw [List.flatMap_cons]
    rw [e1, e2, Ma.foldText_app, ih]; rfl
theorem Ma.allText_lines : ∀ ss : List (List Pr), Ma.allText ss = Ma.foldText (Ma.allLines ss)
  | [] => rfl
  | s :: ss => by
    have ih := Ma.allText_lines ss
    have e1 : Ma.allText (s :: ss) = Ma.sectText s ++ Ma.allText ss := by unfold Ma.allText; rw [List.flatMap_cons]
    have e2 : Ma.allLines (s :: ss) = Ma.pairLines s ++ [[]] ++ Ma.allLines ss := by unfold Ma.allLines; rw [List.flatMap_cons]
    rw [e1, e2, Ma.foldText_app, Ma.foldText_app, ih, ← Ma.pairsText_lines]; rfl
theorem Ma.run_pairs : ∀ (ps : List Pr) (out : List (List (List UInt8))) (now : List (List UInt8)), (∀ p ∈ ps, Ma.okP p) → (Ma.pairLines ps).foldl Ma.runS (0, out, now) = (0, out, now ++ ps.map Ma.lineOf)
  | [], out, now, _ => by simp [Ma.pairLines]
  | p :: ps, out, now, h => by
    have hp := Ma.line_ne (h p (List.mem_cons_self ..))
    have e2 : Ma.pairLines (p :: ps) = Ma.fold (Ma.lineOf p) ++ Ma.pairLines ps := by unfold Ma.pairLines; rw [List.flatMap_cons]
    rw [e2, List.foldl_append, Ma.run_fold hp.2.1 hp.2.2, Ma.run_pairs ps _ _ fun q hq => h q (List.mem_cons_of_mem _ hq)]
    simp
theorem Ma.run_all : ∀ (ss : List (List Pr)) (out : List (List (List UInt8))), (∀ s ∈ ss, s ≠ [] ∧ ∀ p ∈ s, Ma.okP p) → (Ma.allLines ss).foldl Ma.runS (0, out, []) = (0, out ++ ss.map (·.map Ma.lineOf), [])
  | [], out, _ => by simp [Ma.allLines]
  | s :: ss, out, h => by
    obtain ⟨h1, h2⟩ := h s (List.mem_cons_self ..)
    have e2 : Ma.allLines (s :: ss) = Ma.pairLines s ++ [[]] ++ Ma.allLines ss := by unfold Ma.allLines; rw [List.flatMap_cons]
    rw [e2, List.foldl_append, List.foldl_append, Ma.run_pairs s out [] h2, List.nil_append, List.foldl_cons, List.foldl_nil]
    have e : Ma.runS (0, out, s.map Ma.lineOf) [] = (0, out ++ [s.map Ma.lineOf], []) := by
      unfold Ma.runS
      rw [if_neg (by simp)]
      unfold Ma.put
      rw [if_neg (by simp), if_pos rfl, if_neg (by simpa using h1)]
    rw [e, Ma.run_all ss _ fun q hq => h q (List.mem_cons_of_mem _ hq)]
    simp
theorem Ma.lines_ne {ss : List (List Pr)} (h : ∀ s ∈ ss, s ≠ [] ∧ ∀ p ∈ s, Ma.okP p) : ∀ l ∈ Ma.allLines ss, ∀ c ∈ l, c ≠ 10 := by
  intro l hl c hc
  obtain ⟨s, hs, hl⟩ := List.mem_flatMap.1 hl
  rcases List.mem_append.1 hl with hl | hl
  · obtain ⟨p, hp, hl⟩ := List.mem_flatMap.1 hl
    rcases Ma.fold_mem _ l hl c hc with rfl | hc
    · decide
    · exact (Ma.line_ne ((h s hs).2 p hp)).1 c hc
  · rw [List.mem_singleton] at hl; subst hl; cases hc

/-! ### Sections, read -/
theorem Ma.sect_lines (main : Bool) : ∀ (s a : List Pr), Ma.secErr main a s = 0 → (s.map Ma.lineOf).foldl (Ma.hstep main) (0, a) = (0, a ++ s)
  | [], a, _ => by simp
  | p :: s, a, h => by
    have hok := Ma.secErr_ok main _ _ h p (List.mem_cons_self ..)
    rw [Ma.secErr] at h
    by_cases ht : Ma.take main a p = 0
    · rw [if_neg (by omega)] at h
      rw [List.map_cons, List.foldl_cons]
      have e : Ma.hstep main (0, a) (Ma.lineOf p) = (0, a ++ [p]) := by
        unfold Ma.hstep
        rw [if_neg (by simp), Ma.header_line hok]
        simp only
        rw [ht, after_ok ht]
      rw [e, Ma.sect_lines main s _ h]
      simp
    · rw [if_pos ht] at h; exact absurd h ht
theorem Ma.parts_lines : ∀ (ss acc : List (List Pr)), Ma.manErr (acc.length == 0) ss = 0 → (ss.map (·.map Ma.lineOf)).foldl Ma.pstep (0, acc) = (0, acc ++ ss)
  | [], acc, _ => by simp
  | s :: ss, acc, h => by
    rw [Ma.manErr] at h
    by_cases hx : s = []
    · rw [if_pos hx] at h; cases h
    · rw [if_neg hx] at h
      by_cases he : Ma.secErr (acc.length == 0) [] s = 0
      · rw [if_neg (by omega)] at h
        rw [List.map_cons, List.foldl_cons]
        have es : Ma.sect (acc.length == 0) (s.map Ma.lineOf) = (0, s) := by
          have := Ma.sect_lines (acc.length == 0) s [] he
          simpa [Ma.sect] using this
        have e : Ma.pstep (0, acc) (s.map Ma.lineOf) = (0, acc ++ [s]) := by
          unfold Ma.pstep
          rw [if_neg (by simp)]
          simp only
          rw [es, if_neg (by simp)]
        rw [e, Ma.parts_lines ss (acc ++ [s]) (by
          have e2 : ((acc ++ [s]).length == 0) = false := by simp
          rw [e2]; exact h)]
        simp
      · rw [if_pos he] at h; exact absurd h he
/-- What is printed is read as it was. -/
theorem Ma.parse_print {ss : List (List Pr)} (h : Ma.manErr true ss = 0) (h0 : ss ≠ []) (hl : (Ma.allText ss).length ≤ 16777216) : Ma.parse (Ma.allText ss) = (0, ss) := by
  have hok := Ma.manErr_ok ss true h
  have hrun : Ma.runl (Ma.cuts (Ma.allText ss)) = (0, ss.map (·.map Ma.lineOf), []) := by
    rw [Ma.allText_lines, Ma.cuts_text _ (Ma.lines_ne hok), ← Ma.runp_as]
    have := Ma.run_all ss [] hok
    simpa [Ma.runp] using this
  have hsuf : Lib.hasSuffix (Ma.allText ss) [10] = true := by
    rw [Ma.suffix_one, beq_iff_eq]
    obtain ⟨pre, s, rfl⟩ : ∃ pre s, ss = pre ++ [s] := ⟨ss.dropLast, ss.getLast h0, (List.dropLast_concat_getLast h0).symm⟩
    have : Ma.allText (pre ++ [s]) = Ma.allText pre ++ Ma.pairsText s ++ [13] ++ [10] := by
      unfold Ma.allText
      rw [List.flatMap_append]
      simp [Ma.sectText]
    rw [this, List.getLast?_concat]
  have hclose : Ma.close (0, ss.map (·.map Ma.lineOf), []) = ss.map (·.map Ma.lineOf) := by
    unfold Ma.close
    rw [if_neg (by simp), if_pos rfl]
  have hparts : Ma.parts (ss.map (·.map Ma.lineOf)) = (0, ss) := by
    have := Ma.parts_lines ss [] h
    simpa [Ma.parts] using this
  unfold Ma.parse
  rw [if_neg (by omega), hsuf, if_neg (by simp), hrun, if_neg (by simp), hclose, hparts, if_neg (by simp), if_neg h0]

/-! ### What is read may be printed -/
/-- A bound of what lines of sections are printed to. -/
def Ma.lw : List (List UInt8) → Nat
  | [] => 0
  | l :: a => 4 * l.length + 5 + Ma.lw a
def Ma.sw : List (List (List UInt8)) → Nat
  | [] => 0
  | a :: L => Ma.lw a + 2 + Ma.sw L
theorem Ma.lw_app : ∀ a b : List (List UInt8), Ma.lw (a ++ b) = Ma.lw a + Ma.lw b
  | [], b => by simp [Ma.lw]
  | l :: a, b => by simp only [List.cons_append, Ma.lw, Ma.lw_app a b]; omega
theorem Ma.sw_app : ∀ a b : List (List (List UInt8)), Ma.sw (a ++ b) = Ma.sw a + Ma.sw b
  | [], b => by simp [Ma.sw]
  | l :: a, b => by simp only [List.cons_append, Ma.sw, Ma.sw_app a b]; omega
theorem Ma.foldT_text : ∀ (k : Nat) (r : List UInt8), (Ma.foldText (Ma.foldT k r)).length ≤ 4 * r.length
  | 0, r => by simp [Ma.foldT, Ma.foldText]
  | k + 1, r => by
    unfold Ma.foldT
    by_cases hr : r = []
    · subst hr; simp [Ma.foldText]
    · rw [if_neg hr]
      have ih := Ma.foldT_text k (r.drop 71)
      have hp : 0 < r.length := List.length_pos_iff.2 hr
      have e : Ma.foldText ((32 :: r.take 71) :: Ma.foldT k (r.drop 71)) = (32 :: r.take 71) ++ [13, 10] ++ Ma.foldText (Ma.foldT k (r.drop 71)) := by unfold Ma.foldText; rw [List.flatMap_cons]
      rw [e]
      simp only [List.length_append, List.length_cons, List.length_take, List.length_nil, List.length_drop] at ih ⊢
      omega
theorem Ma.fold_text (r : List UInt8) : (Ma.foldText (Ma.fold r)).length ≤ 4 * r.length + 5 := by
  unfold Ma.fold
  split
  · simp [Ma.foldText]; omega
  · have ih := Ma.foldT_text r.length (r.drop 72)
    have e : Ma.foldText (r.take 72 :: Ma.foldT r.length (r.drop 72)) = r.take 72 ++ [13, 10] ++ Ma.foldText (Ma.foldT r.length (r.drop 72)) := by unfold Ma.foldText; rw [List.flatMap_cons]
    rw [e]
    simp only [List.length_append, List.length_cons, List.length_take, List.length_nil, List.length_drop] at ih ⊢
    omega
theorem Ma.sect_back (main : Bool) : ∀ (ls : List (List UInt8)) (a r : List Pr), ls.foldl (Ma.hstep main) (0, a) = (0, r) → ∃ t, r = a ++ t ∧ Ma.secErr main a t = 0 ∧ t.length = ls.length ∧ (Ma.pairsText t).length ≤ Ma.lw ls
  | [], a, r, h => by
    simp at h
    exact ⟨[], by simp [h], rfl, rfl, Nat.le_refl _⟩
  | l :: ls, a, r, h => by
    rw [List.foldl_cons] at h
    have bad : ∀ s : Nat × List Pr, s.1 ≠ 0 → ls.foldl (Ma.hstep main) s = (0, r) → False := fun s hs e => by
      rw [Ma.fold_err (Ma.hstep_err main) ls s hs] at e
      rw [e] at hs
      exact hs rfl
    have e1 : Ma.hstep main (0, a) l = match Ma.header l with
      | none => (2, a)
      | some p => (Ma.take main a p, Ma.after main a p) := by
      unfold Ma.hstep
      rw [if_neg (by simp)]
      cases Ma.header l <;> rfl
    rw [e1] at h
    cases hh : Ma.header l with
    | none => rw [hh] at h; exact (bad _ (by simp) h).elim
    | some p =>
      rw [hh] at h
      simp only at h
      by_cases ht : Ma.take main a p = 0
      · rw [ht, after_ok ht] at h
        obtain ⟨t, h1, h2, h3, h4⟩ := Ma.sect_back main ls _ _ h
        refine ⟨p :: t, by rw [h1]; simp, ?_, by simp [h3], ?_⟩
        · rw [Ma.secErr, if_neg (by omega)]; exact h2
        · have e2 : Ma.pairsText (p :: t) = Ma.pairText p ++ Ma.pairsText t := by unfold Ma.pairsText; rw [List.flatMap_cons]
          have e3 := Ma.fold_text (Ma.lineOf p)
          rw [Ma.header_len hh] at e3
          rw [e2, List.length_append, Ma.lw]
          have : (Ma.pairText p).length = (Ma.foldText (Ma.fold (Ma.lineOf p))).length := rfl
          omega
      · exact (bad _ ht h).elim
theorem Ma.parts_back : ∀ (L : List (List (List UInt8))) (acc r : List (List Pr)), (∀ ls ∈ L, ls ≠ []) → L.foldl Ma.pstep (0, acc) = (0, r) → ∃ t, r = acc ++ t ∧ Ma.manErr (acc.length == 0) t = 0 ∧ (Ma.allText t).length ≤ Ma.sw L
  | [], acc, r, _, h => by
    simp at h
    exact ⟨[], by simp [h], rfl, Nat.le_refl _⟩
  | ls :: L, acc, r, hne, h => by
    rw [List.foldl_cons] at h
    have bad : ∀ s : Nat × List (List Pr), s.1 ≠ 0 → L.foldl Ma.pstep s = (0, r) → False := fun s hs e => by
      rw [Ma.fold_err Ma.pstep_err L s hs] at e
      rw [e] at hs
      exact hs rfl
    have e1 : Ma.pstep (0, acc) ls = if (Ma.sect (acc.length == 0) ls).1 ≠ 0 then ((Ma.sect (acc.length == 0) ls).1, acc) else (0, acc ++ [(Ma.sect (acc.length == 0) ls).2]) := by
      unfold Ma.pstep
      rw [if_neg (by simp)]
    rw [e1] at h
    by_cases hs : (Ma.sect (acc.length == 0) ls).1 = 0
    · rw [if_neg (by omega)] at h
      obtain ⟨t, h1, h2, h3⟩ := Ma.parts_back L _ _ (fun x hx => hne x (List.mem_cons_of_mem _ hx)) h
      have hse : ls.foldl (Ma.hstep (acc.length == 0)) (0, []) = (0, (Ma.sect (acc.length == 0) ls).2) := Prod.ext hs rfl
      obtain ⟨s, k1, k2, k3, k4⟩ := Ma.sect_back _ ls [] _ hse
      rw [List.nil_append] at k1
      rw [k1] at h1
      have hsn : s ≠ [] := fun e => by
        rw [e] at k3
        exact hne ls (List.mem_cons_self ..) (List.eq_nil_of_length_eq_zero k3.symm)
      have e2 : ((acc ++ [(Ma.sect (acc.length == 0) ls).2]).length == 0) = false := by simp
      rw [e2] at h2
      refine ⟨s :: t, by rw [h1]; simp, ?_, ?_⟩
      · rw [Ma.manErr, if_neg hsn, if_neg (by omega)]; exact h2
      · have e3 : Ma.allText (s :: t) = Ma.sectText s ++ Ma.allText t := by unfold Ma.allText; rw [List.flatMap_cons]
        rw [e3, List.length_append, Ma.sw]
        have : (Ma.sectText s).length = (Ma.pairsText s).length + 2 := by unfold Ma.sectText; simp
        omega
    · rw [if_pos hs] at h
      exact (bad _ hs h).elim
/-- What is under way weighs no more than what was read. -/
def Ma.Light (s : Ma.St) (n : Nat) : Prop := Ma.sw s.2.1 + Ma.lw s.2.2 ≤ n ∧ ∀ a ∈ s.2.1, a ≠ []
theorem Ma.light_step {s : Ma.St} {n : Nat} (h : Ma.Light s n) (x : List UInt8) : Ma.Light (Ma.step s x) (n + 4 * x.length + 7) := by
  obtain ⟨h1, h2⟩ := h
  have up : Ma.Light s (n + 4 * x.length + 7) := ⟨by omega, h2⟩
  have hx := Ma.trim_le x
  unfold Ma.step
  split
  · exact up
  · unfold Ma.put
    split
    · exact ⟨by simp [Ma.sw, Ma.lw], by simp⟩
    · split
      · split
        · exact up
        · rename_i hn
          refine ⟨by simp only [Ma.sw_app, Ma.sw, Ma.lw]; omega, fun a ha => ?_⟩
          rcases List.mem_append.1 ha with ha | ha
          · exact h2 a ha
          · simp at ha; subst ha; exact hn
      · split
        · exact ⟨by simp only [Ma.lw_app, Ma.lw]; omega, h2⟩
        · split
          · exact ⟨by simp [Ma.sw, Ma.lw], by simp⟩
          · rename_i hne
            refine ⟨?_, h2⟩
            have e : s.2.2 = s.2.2.dropLast ++ [s.2.2.getLastD []] := by
              conv => lhs; rw [← List.dropLast_concat_getLast hne]
              rw [List.getLastD_eq_getLast?, List.getLast?_eq_some_getLast hne]; rfl
            have hw : Ma.lw s.2.2 = Ma.lw s.2.2.dropLast + (4 * (s.2.2.getLastD []).length + 5) := by
              conv => lhs; rw [e]
              rw [Ma.lw_app]; simp [Ma.lw]
            simp only [Ma.lw_app, Ma.lw, List.length_append, List.length_tail]
            omega
theorem Ma.light_run (pre : List (List UInt8)) : Ma.Light (Ma.runl pre) (4 * pre.flatten.length + 7 * pre.length) := by
  have aux : ∀ (t : List (List UInt8)) (s : Ma.St) (n : Nat), Ma.Light s n → Ma.Light (t.foldl Ma.step s) (n + (4 * t.flatten.length + 7 * t.length)) := by
    intro t
    induction t with
    | nil => intro s n h; simpa using h
    | cons x t ih =>
      intro s n h
      have := ih _ _ (Ma.light_step h x)
      rw [List.foldl_cons]
      have e1 : n + 4 * x.length + 7 + (4 * t.flatten.length + 7 * t.length) = n + (4 * (x :: t).flatten.length + 7 * (x :: t).length) := by simp; omega
      rw [← e1]
      exact this
  have := aux pre (0, [], []) 0 ⟨by simp [Ma.sw, Ma.lw], by simp⟩
  rw [Nat.zero_add] at this
  exact this
/-- What is read may be printed, to a text that is not much longer. -/
theorem Ma.parse_back {b : List UInt8} (h : (Ma.parse b).1 = 0) : (Ma.parse b).2 ≠ [] ∧ Ma.manErr true (Ma.parse b).2 = 0 ∧ (Ma.allText (Ma.parse b).2).length ≤ 11 * b.length + 2 := by
  unfold Ma.parse at h ⊢
  split at h
  · cases h
  rename_i g1
  rw [if_neg g1]
  split at h
  · cases h
  rename_i g2
  rw [if_neg g2]
  split at h
  · rename_i g3; exact absurd h g3
  rename_i g3
  rw [if_neg g3]
  split at h
  · rename_i g4; exact absurd h g4
  rename_i g4
  rw [if_neg g4]
  split at h
  · cases h
  rename_i g5
  rw [if_neg g5]
  obtain ⟨w1, w2⟩ := Ma.light_run (Ma.cuts b)
  rw [Ma.cuts_flat] at w1
  have hc := Ma.cuts_len b
  have hcl : Ma.sw (Ma.close (Ma.runl (Ma.cuts b))) ≤ 11 * b.length + 2 ∧ ∀ a ∈ Ma.close (Ma.runl (Ma.cuts b)), a ≠ [] := by
    unfold Ma.close
    rw [if_neg g3]
    split
    · exact ⟨by omega, w2⟩
    · rename_i hn
      refine ⟨by simp only [Ma.sw_app, Ma.sw]; omega, fun a ha => ?_⟩
      rcases List.mem_append.1 ha with ha | ha
      · exact w2 a ha
      · simp at ha; subst ha; exact hn
  have h4 : (Ma.parts (Ma.close (Ma.runl (Ma.cuts b)))).1 = 0 := by omega
  obtain ⟨t, k1, k2, k3⟩ := Ma.parts_back (Ma.close (Ma.runl (Ma.cuts b))) [] (Ma.parts (Ma.close (Ma.runl (Ma.cuts b)))).2 hcl.2 (Prod.ext h4 rfl)
  rw [List.nil_append] at k1
  refine ⟨g5, ?_, ?_⟩
  · show Ma.manErr true (Ma.parts (Ma.close (Ma.runl (Ma.cuts b)))).2 = 0
    rw [k1]; exact k2
  · show (Ma.allText (Ma.parts (Ma.close (Ma.runl (Ma.cuts b)))).2).length ≤ _
    rw [k1]; omega
theorem Ma.parse_err {b : List UInt8} (h : (Ma.parse b).1 ≠ 0) : (Ma.parse b).2 = [] := by
  unfold Ma.parse at h ⊢
  repeat (first | rfl | (split <;> rename_i g <;> first | rfl | simp only [g, if_true, if_false] at h))
  simp_all
end Go.Proofs.Ytbjhnfemlpbchaa
