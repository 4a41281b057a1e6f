/- lengths.Kind. -/
import Derived.Test.YtjbbhfloomejoaaPf
namespace Go.Proofs.Ytjbbhfloomejoaa
open Go.RowKit
set_option maxHeartbeats 4000000 in
set_option maxRecDepth 100000 in
theorem kind_any (A : Option Addr) (c : Nat) (l : List Nat) (w : World) (h : Ints w A c (il l)) (hl : ∀ n ∈ l, n ≤ 15) (hn : l.length ≤ 1000000) :
    Calls Try.prog 57 #[.slice A l.length c] w fun e w' => e = .returned (.int .i64 (Pf.kind l : Nat)) ∧ w' = w := by
  have HX := Lib.hid h
  have HL := Lib.hid hl
  clear h hl
  go_enter Try.func57, Try.ntmps57
  go_upto_region 3 with fail
  go_loopw [3, 4, 5, 10] (fun s3 s4 s5 s10 wr => ∃ i : Nat, i ≤ l.length ∧ s10 = .int .i64 (i : Nat) ∧ s3 = .int .i64 ((Pf.kst (l.take i)).1 : Nat) ∧ s4 = .int .i64 ((Pf.kst (l.take i)).2.1 : Nat) ∧ s5 = .int .i64 ((Pf.kst (l.take i)).2.2 : Nat) ∧ wr = w) (fun _ _ _ s10 _ => l.length - (intOf s10).toNat)
  case atStart => exact ⟨0, Nat.zero_le _, rfl, rfl, rfl, rfl, rfl⟩
  case round =>
    obtain ⟨i, hi, rfl, rfl, rfl, rfl, rfl⟩ := hrel
    have hle := Pf.kst_le (l.take i) (fun n hn => HL.out n (List.mem_of_mem_take hn))
    rw [List.length_take, Nat.min_eq_left hi] at hle
    obtain ⟨g1, g2, g3⟩ := hle
    by_cases h1 : i < l.length
    · as_aux_lemma =>
      obtain ⟨g, o, n', rfl, hgz, hx, hc⟩ := HX.out.at_ (i := i) (by rw [il_len]; exact h1)
      obtain ⟨n, hln⟩ : ∃ n, l[i]? = some n := ⟨_, List.getElem?_eq_getElem h1⟩
      rw [il_get hln] at hx
      cases hx
      have hn15 := HL.out n (List.mem_of_getElem? hln)
      have KN := Lib.hid (Pf.kst_next hln)
      generalize hs : Pf.kst (l.take i) = s at g1 g2 g3 KN ⊢
      obtain ⟨a, b, m⟩ := s
      dsimp only at g1 g2 g3 ⊢
      have ha : a ≤ 32768000000 := by omega
      have hq : 32768 / 2 ^ n ≤ 32768 := Nat.div_le_self _ _
      have q1 : ¬ ((n : Int) < 0) := by omega
      have q2 : ¬ ((n : Int) > 15) := by omega
      have q3 : ¬ ((i : Int) < 0) := by omega
      have hQ : ((32768 : Int) / 2 ^ n) = ((32768 / 2 ^ n : Nat) : Int) := by push_cast; rfl
      obtain ⟨q, HQ⟩ : ∃ q, Hid (q = 32768 / 2 ^ n) := ⟨_, Lib.hid rfl⟩
      rw [← HQ.out] at hq hQ
      clear hs
      by_cases h0 : 0 < n
      · have h0' : (n : Int) > 0 := by omega
        have SN := Lib.hid (show Pf.step (a, b, m) n = (a + q, b + 1, max m n) by unfold Pf.step; rw [if_pos h0, HQ.out])
        clear HQ
        go_wp2_with fail
        refine ⟨⟨i + 1, h1, rfl, ?_, ?_, ?_, trivial⟩, next_less h1⟩
        · rw [KN.out, SN.out]; rfl
        · rw [KN.out, SN.out]; rfl
        · rw [KN.out, SN.out]
          show Value.int .i64 (if m < n then (n : Int) else (m : Int)) = Value.int .i64 ((max m n : Nat) : Int)
          congr 1
          split <;> omega
      · obtain rfl : n = 0 := by omega
        have SN := Lib.hid (show Pf.step (a, b, m) 0 = (a, b, m) from rfl)
        clear HQ hQ
        go_wp2_with fail
        refine ⟨⟨i + 1, h1, rfl, ?_, ?_, ?_, trivial⟩, next_less h1⟩
        · rw [KN.out, SN.out]
        · rw [KN.out, SN.out]
        · rw [KN.out, SN.out]
    · as_aux_lemma =>
      have hie : i = l.length := by omega
      subst hie
      rw [List.take_length] at g1 g2 g3 ⊢
      obtain ⟨a, b, m, hs⟩ : ∃ a b m, Pf.kst l = (a, b, m) := ⟨_, _, _, rfl⟩
      rw [hs] at g1 g2 g3 ⊢
      dsimp only at g1 g2 g3 ⊢
      have HK := Lib.hid (show Pf.kind l = if b = 0 then 1 else if b = 1 ∧ m = 1 then 2 else if a = 32768 then 3 else 0 by unfold Pf.kind; rw [hs])
      clear hs
      by_cases b0 : b = 0
      · have q1 : ((b : Int) == 0) = true := by subst b0; rfl
        have HE := Lib.hid (show Pf.kind l = 1 by rw [HK.out, if_pos b0])
        clear HK b0
        go_wp2_with fail
        go_ret
        rw [HE.out]
        exact ⟨rfl, rfl⟩
      · have q1 : ((b : Int) == 0) = false := beq_eq_false_iff_ne.2 (by omega)
        by_cases b1 : b = 1 ∧ m = 1
        · have HE := Lib.hid (show Pf.kind l = 2 by rw [HK.out, if_neg b0, if_pos b1])
          obtain ⟨rfl, rfl⟩ := b1
          clear HK b0 q1
          go_wp2_with fail
          go_ret
          rw [HE.out]
          exact ⟨rfl, rfl⟩
        · have q2 : ((b : Int) == 1 && (m : Int) == 1) = false := by
            rw [Bool.and_eq_false_iff]
            by_cases e : b = 1
            · exact .inr (beq_eq_false_iff_ne.2 (by omega))
            · exact .inl (beq_eq_false_iff_ne.2 (by omega))
          by_cases a0 : a = 32768
          · have HE := Lib.hid (show Pf.kind l = 3 by rw [HK.out, if_neg b0, if_neg b1, if_pos a0])
            clear HK b0 b1
            by_cases e : b = 1
            · have q4 : ((b : Int) == 1) = true := by subst e; rfl
              have q5 : ((m : Int) == 1) = false := by rw [q4] at q2; simpa using q2
              subst a0
              clear e
              go_wp2_with fail
              go_ret
              rw [HE.out]
              exact ⟨rfl, rfl⟩
            · have q4 : ((b : Int) == 1) = false := beq_eq_false_iff_ne.2 (by omega)
              subst a0
              clear e
              go_wp2_with fail
              go_ret
              rw [HE.out]
              exact ⟨rfl, rfl⟩
          · have HE := Lib.hid (show Pf.kind l = 0 by rw [HK.out, if_neg b0, if_neg b1, if_neg a0])
            have q3 : ((a : Int) == 32768) = false := beq_eq_false_iff_ne.2 (by omega)
            clear HK b0 b1
            by_cases e : b = 1
            · have q4 : ((b : Int) == 1) = true := by subst e; rfl
              have q5 : ((m : Int) == 1) = false := by rw [q4] at q2; simpa using q2
              clear e
              go_wp2_with fail
              go_ret
              rw [HE.out]
              exact ⟨rfl, rfl⟩
            · have q4 : ((b : Int) == 1) = false := beq_eq_false_iff_ne.2 (by omega)
              clear e
              go_wp2_with fail
              go_ret
              rw [HE.out]
              exact ⟨rfl, rfl⟩
end Go.Proofs.Ytjbbhfloomejoaa
