/- The walk of layer 19: all that values need, by the program. -/
import Derived.Test.YtekcfjfkbiciaaaLib
import Derived.Test.YtekcfjfkbiciaaaMapV
import Derived.Test.YtekcfjfkbiciaaaROrder
import Derived.Carry
namespace Go.Proofs.Ytekcfjfkbiciaaa
open Go.RowKit Go.Maps

theorem Pv.fits_needs {v x : Pv} (h : v.fits) (hx : x ∈ v.needs) : x.fits := by
  obtain ⟨h0, h1, h2, h3, h4, h5⟩ := h
  have i1 : I64 1 := by unfold I64; omega
  have i7 : I64 7 := by unfold I64; omega
  have i12 : I64 12 := by unfold I64; omega
  have t : ∀ s : List UInt8, s.length ≤ 140737488355328 → (Pv.ofText s).fits := fun s hs => ⟨i1, by simp [Pv.ofText], hs, by simp [Pv.ofText], by simp [Pv.ofText], by simp [Pv.ofText]⟩
  unfold Pv.needs at hx
  split at hx
  · simp only [List.mem_singleton] at hx
    subst hx
    exact t _ h2
  · split at hx
    · simp only [List.mem_cons, List.not_mem_nil, or_false] at hx
      rcases hx with rfl | rfl
      · exact t _ h4
      · exact t _ h5
    · split at hx
      · simp only [List.mem_cons, List.not_mem_nil, or_false] at hx
        rcases hx with rfl | rfl
        · exact ⟨i7, by simp [Pv.ofCls], h3, by simp [Pv.ofCls], by simp [Pv.ofCls], by simp [Pv.ofCls]⟩
        · exact ⟨i12, by simp [Pv.ofPair], by simp [Pv.ofPair], by simp [Pv.ofPair], h4, h5⟩
      · simp at hx
theorem Pv.fits_cl {l : List Pv} (h : ∀ v ∈ l, v.fits) {x : Pv} (hx : x ∈ clAll l) : x.fits := clAll_least (S := Pv.fits) h (fun _ hx _ hy => Pv.fits_needs hx hy) hx
/-- What is found, and what is to be done. -/
structure Clo (l : List Pv) (S : Pv → Bool) (T : List Pv) : Prop where
  sound : ∀ x, S x = true → x ∈ clAll l
  soundT : ∀ x ∈ T, x ∈ clAll l
  start : ∀ x ∈ l, S x = true ∨ x ∈ T
  need : ∀ x, S x = true → ∀ y ∈ x.needs, S y = true ∨ y ∈ T
section
variable {l T : List Pv} {S : Pv → Bool} {v : Pv}
theorem Clo.begin : Clo l (fun _ => false) l := ⟨by simp, fun x hx => clAll_has hx, fun x hx => .inr hx, by simp⟩
theorem Clo.old (h : Clo l S (T ++ [v])) (h1 : S v = true) : Clo l S T := by
  have step : ∀ x, S x = true ∨ x ∈ T ++ [v] → S x = true ∨ x ∈ T := fun x h3 => by
    rcases h3 with h3 | h3
    · exact .inl h3
    · rcases List.mem_append.1 h3 with h3 | h3
      · exact .inr h3
      · rw [List.mem_singleton] at h3
        subst h3
        exact .inl h1
  exact ⟨h.sound, fun x hx => h.soundT x (by simp [hx]), fun x hx => step x (h.start x hx), fun x hx y hy => step y (h.need x hx y hy)⟩
theorem Clo.add (h : Clo l S (T ++ [v])) : Clo l (fun x => decide (x = v) || S x) (T ++ v.needs) := by
  have hv : v ∈ clAll l := h.soundT v (by simp)
  have step : ∀ x, S x = true ∨ x ∈ T ++ [v] → (decide (x = v) || S x) = true ∨ x ∈ T ++ v.needs := fun x h3 => by
    rcases h3 with h3 | h3
    · exact .inl (by simp [h3])
    · rcases List.mem_append.1 h3 with h3 | h3
      · exact .inr (by simp [h3])
      · rw [List.mem_singleton] at h3
        subst h3
        exact .inl (by simp)
  refine ⟨fun x hx => ?_, fun x hx => ?_, fun x hx => step x (h.start x hx), fun x hx y hy => ?_⟩
  · simp only [Bool.or_eq_true, decide_eq_true_eq] at hx
    rcases hx with rfl | hx
    · exact hv
    · exact h.sound x hx
  · rcases List.mem_append.1 hx with hx | hx
    · exact h.soundT x (by simp [hx])
    · exact clAll_closed hv hx
  · simp only [Bool.or_eq_true, decide_eq_true_eq] at hx
    rcases hx with rfl | hx
    · exact .inr (by simp [hy])
    · exact step y (h.need x hx y hy)
theorem Clo.fin (h : Clo l S []) (x : Pv) : S x = true ↔ x ∈ clAll l := by
  refine ⟨h.sound x, fun hx => clAll_least (S := fun x => S x = true) (fun y hy => ?_) (fun y hy z hz => ?_) hx⟩
  · rcases h.start y hy with h3 | h3
    · exact h3
    · simp at h3
  · rcases h.need y hy z hz with h3 | h3
    · exact h3
    · simp at h3
end
/-- Between two rounds. -/
def CloSt (l : List Pv) (w : World) (N : Nat) (t : Value) (g : Nat) (x : World) : Prop :=
  ∃ S T n, wts T ≤ g ∧ n + wts T ≤ N ∧ Clo l S T ∧ VSet x w.heap.size n S ∧ VOff x w.heap.size t T ∧ Below w.heap.size w x
/-- What the call comes to. -/
def CloOk (l : List Pv) (w : World) (e : Ending) (w' : World) : Prop :=
  ∃ S n, e = .returned (.map (some w.heap.size)) ∧ VSet w' w.heap.size n S ∧ (∀ x, S x = true ↔ x ∈ clAll l) ∧ n ≤ 7 * l.length ∧ Below w.heap.size w w'
set_option maxHeartbeats 8000000 in
set_option maxRecDepth 100000 in
theorem closure_any (A : Option Addr) (c : Nat) (l : List Pv) (w : World) (hx : Vals w A c l) (hn : l.length ≤ 100000) (hA : A = none → c = 0) (hf : ∀ v ∈ l, v.fits) :
    Calls Try.prog 23 #[.slice A l.length c] w (CloOk l w) := by
  have k0 := Lib.hid ((Below.refl w.heap.size w).alloc (Nat.le_refl _) (.map #[] 0))
  have HV := Lib.hid (VSet.made w)
  have HC := Lib.hid (clone_any A c l (w.alloc (.map #[] 0)) (hx.grow k0.out) (by omega) hA)
  have HFT := Lib.hid (fun x hx => Pv.fits_cl hf (x := x) hx)
  have HND := Lib.hid (fun v w => needs_any v w)
  unfold vv at HND
  have hmm := @run_makeMap Try.prog
  clear hx hf hA
  go_enter Try.func23, Try.ntmps23
  go_wp2_with fail
  clear hmm
  generalize w.alloc (.map #[] 0) = W at k0 HV HC ⊢
  refine HC.out.mono ?_
  rintro e w1 ⟨u, rfl, hr, hb⟩
  have HST := Lib.hid (show CloSt l w (7 * l.length) u (7 * l.length) w1 from
    ⟨_, l, 0, wts_le l, by have := wts_le l; omega, Clo.begin, HV.out.grow hb, (VOff.of hr).lower k0.out.size, k0.out.trans (hb.mono k0.out.size)⟩)
  clear hr hb HC HV k0
  go_wp2_with fail
  go_loopg [4] (7 * l.length) (fun g t wx => CloSt l w (7 * l.length) t g wx)
  case atStart => exact HST.out
  case round =>
    clear HST
    obtain ⟨S, T, n, hg, hN, hC, hV, hT, hB⟩ := hrel
    have HC := Lib.hid hC
    have HV := Lib.hid hV
    have HT := Lib.hid hT
    have HB := Lib.hid hB
    clear hC hV hT hB
    rcases List.eq_nil_or_concat T with rfl | ⟨T', v, rfl⟩
    · obtain ⟨A4, c4, rfl, hV4⟩ := HT.out.reads
      have HF := Lib.hid (fun x => HC.out.fin x)
      clear hV4 HT HC
      go_wp2
      go_ret
      exact ⟨S, n, rfl, HV.out, HF.out, by omega, HB.out⟩
    · rw [List.concat_eq_append] at HT HC hg hN
      obtain ⟨g, o, c', rfl, hbg, hgl, hc', ⟨c0, c1, c2, c3, c4, c5⟩, hnx⟩ := HT.out.pop
      have HN := Lib.hid hnx
      have HFV := Lib.hid (HFT.out v (HC.out.soundT v (by simp)))
      have k1 := Lib.hid ((Below.refl wr.heap.size wr).alloc (Nat.le_refl _) (.cells #[.int .i64 v.tag, .string (bs v.text), .int .u64 v.bits, .string (bs v.cls), .string (bs v.name), .string (bs v.desc)] 25))
      have q1 := Lib.hid (vbox_new wr v)
      rw [wts_append, show wts [v] = v.wt + 0 from wts_cons v []] at hg hN
      have hwv := wt_pos v
      have hTb : T'.length ≤ 1000000 := by have := wts_len T'; omega
      have hlk := (HV.out.grow k1.out).look HFV.out.k
      unfold vv at hlk
      have p1 : decide ((0 : Int) < (T'.length : Int) + 1) = true := decide_eq_true (by omega)
      clear hnx HT
      by_cases hS : S v = true
      · rw [hS] at hlk
        have HC2 := Lib.hid (HC.out.old hS)
        clear hS
        go_wp2_with fail
        go_roundg (gk - 1)
        case measure => omega
        case rel => exact ⟨S, T', n, by omega, by omega, HC2.out, HV.out.grow k1.out, HN.out.grow k1.out, HB.out.trans (k1.out.mono HB.out.size)⟩
      · rw [Bool.eq_false_iff.2 hS] at hlk
        have HC2 := Lib.hid (HC.out.add)
        have hwn := wts_needs v
        have hnl := v.needs_len
        clear hS
        have HVK := Lib.hid (HV.out.grow k1.out)
        have hnm : n < maxLen := by unfold maxLen; omega
        have hvv : Value.agg #[.int .i64 v.tag, .string (bs v.text), .int .u64 v.bits, .string (bs v.cls), .string (bs v.name), .string (bs v.desc)] = vv v := rfl
        have HVV := Lib.hid hvv
        have HNM := Lib.hid hnm
        clear hvv hnm
        have hml := HV.out.lt
        have HNV := Lib.hid (HN.out.grow k1.out)
        have HNE := Lib.hid (show some w.heap.size ≠ (Value.slice (some ⟨g, o, none⟩) T'.length c').ownBlock by
          obtain ⟨D, ⟨es, clock, hb, _⟩, _⟩ := HVK.out
          exact OffRow.ne_obj HNV.out hb (fun cur e => by cases e))
        go_wp2_with (at_mapUpdate; refine wpList_setPut rfl _ _ _ rfl w.heap.size n S v rfl HVK.out HNM.out HFV.out.k rfl rfl ?_; intro w5 hV5 hg5; have q5 : VBox w5 wr.heap.size v := (hg5.block _ (by simp) (fun e => by have := Option.some.inj e; omega)).trans q1.out; obtain ⟨d0, d1, d2, d3, d4, d5⟩ := q5.at_; have hqs := q5.lt; have HV5 := Lib.hid hV5; have HG5 := Lib.hid hg5; clear hV5 hg5 q5)
        have hkN : VOff w5 w.heap.size (.slice (some ⟨g, o, none⟩) T'.length c') T' := OffRow.kept HNV.out HG5.out (.inr HNE.out)
        have HKN := Lib.hid hkN
        have KB := Lib.hid ((HB.out.trans (k1.out.mono HB.out.size)).grown HG5.out (Nat.le_trans HB.out.size k1.out.size) (fun j hj => by cases hj; exact Nat.le_refl _))
        refine (HND.out v w5).mono ?_
        rintro e w6 ⟨u31, rfl, hr6, hb6⟩
        obtain ⟨A6, c6, rfl, hV6, hA6⟩ := hr6.reads
        have HV6 := Lib.hid hV6
        have HR6 := Lib.hid hb6
        clear hr6 hV6 hA6 hb6 d0 d1 d2 d3 d4 d5 hqs hkN hlk c0 c1 c2 c3 c4 c5
        go_wp2_with (at_builtin; refine wpList_appO rfl _ _ rfl w.heap.size (.slice (some ⟨g, o, none⟩) T'.length c') T' rfl (HKN.out.grow HR6.out) _ v.needs rfl (HV6.out.src (Below.refl _ _)) (by omega) (Nat.le_trans KB.out.size HR6.out.size) ?_; intro v7 w7 hr7 hp7)
        have S7 := Lib.hid hr7
        have V7 := Lib.hid ((HV5.out.grow HR6.out).kept hp7.1 HNE.out)
        have B7 := Lib.hid ((KB.out.trans (HR6.out.mono KB.out.size)).trans (hp7.below (Nat.le_trans KB.out.size HR6.out.size) (fun k hk => (HKN.out.base_le hk).1)))
        clear hr7 hp7
        go_roundg (gk - 1)
        case measure => omega
        case rel => exact ⟨_, T' ++ v.needs, n + 1, by rw [wts_append]; omega, by rw [wts_append]; omega, HC2.out, V7.out, S7.out, B7.out⟩
end Go.Proofs.Ytekcfjfkbiciaaa
