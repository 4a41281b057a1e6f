/- Joined texts: Bd, Be, Bits, BhA, BhP, BhB, Bytes, BigRow, BigPlain, Big, BhC, BhD, Cur. -/
import Derived.Test.YtbdkoagagcemcaaPk1
import Derived.Test.YtbdkoagagcemcaaPk2
import Derived.WalkKit
import Derived.Test.YtbdkoagagcemcaaProg
import Derived.WalkSpells
import Derived.LoopN
import Derived.Lib.Hide
import Derived.Laws.OwnMore
import Derived.Lib.SliceRun
import Derived.BigRegion
/- Layer 26 plain: a row in the coding that is shortest, or by its favorites; what is written is read as it was. No program. -/
namespace Go.Proofs.Ytbdkoagagcemcaa
open Pp

/-- The shortest so far, behind one more coding. -/
def shortIn (l : List Int) (best : Option (List UInt8)) (i : Nat) (c : Cod) : Option (List UInt8) :=
  match c.row 0 l with
  | none => best
  | some b => match best with
    | none => some (UInt8.ofNat i :: b)
    | some x => if b.length + 1 < x.length then some (UInt8.ofNat i :: b) else best
def shortTo (l : List Int) : Nat → Option (List UInt8)
  | 0 => none
  | i + 1 => match cods[i]? with
    | none => shortTo l i
    | some c => shortIn l (shortTo l i) i c
def short (l : List Int) : Option (List UInt8) := shortTo l 15
/-- What a short row is. -/
def IsShort (l : List Int) (n : Nat) : Option (List UInt8) → Prop
  | none => ∀ i c, i < n → cods[i]? = some c → c.row 0 l = none
  | some x => (∃ i c b, i < n ∧ cods[i]? = some c ∧ c.row 0 l = some b ∧ x = UInt8.ofNat i :: b) ∧ ∀ i c b, i < n → cods[i]? = some c → c.row 0 l = some b → x.length ≤ b.length + 1
theorem shortTo_is (l : List Int) : ∀ n, IsShort l n (shortTo l n)
  | 0 => fun i c h _ => by omega
  | n + 1 => by
    have ih := shortTo_is l n
    unfold shortTo
    cases hc : cods[n]? with
    | none =>
      dsimp only
      have lt : ∀ i c, i < n + 1 → cods[i]? = some c → i < n := fun i c h1 h2 => by
        by_cases e : i = n
        · subst e; rw [hc] at h2; cases h2
        · omega
      cases hs : shortTo l n with
      | none =>
        rw [hs] at ih
        exact fun i c h1 h2 => ih i c (lt i c h1 h2) h2
      | some x =>
        rw [hs] at ih
        obtain ⟨⟨i, c, b, h1, h2, h3, h4⟩, h5⟩ := ih
        exact ⟨⟨i, c, b, by omega, h2, h3, h4⟩, fun i c b h1 h2 h3 => h5 i c b (lt i c h1 h2) h2 h3⟩
    | some c0 =>
      dsimp only
      unfold shortIn
      have cas : ∀ i c, i < n + 1 → cods[i]? = some c → i < n ∨ (i = n ∧ c = c0) := fun i c h1 h2 => by
        by_cases e : i = n
        · subst e; rw [hc] at h2; cases h2; exact .inr ⟨rfl, rfl⟩
        · exact .inl (by omega)
      cases hr : c0.row 0 l with
      | none =>
        dsimp only
        cases hs : shortTo l n with
        | none =>
          rw [hs] at ih
          intro i c h1 h2
          rcases cas i c h1 h2 with h | ⟨rfl, rfl⟩
          · exact ih i c h h2
          · exact hr
        | some x =>
          rw [hs] at ih
          obtain ⟨⟨i, c, b, h1, h2, h3, h4⟩, h5⟩ := ih
          refine ⟨⟨i, c, b, by omega, h2, h3, h4⟩, fun i c b h1 h2 h3 => ?_⟩
          rcases cas i c h1 h2 with h | ⟨rfl, rfl⟩
          · exact h5 i c b h h2 h3
          · rw [hr] at h3; cases h3
      | some b0 =>
        dsimp only
        cases hs : shortTo l n with
        | none =>
          rw [hs] at ih
          dsimp only
          refine ⟨⟨n, c0, b0, by omega, hc, hr, rfl⟩, fun i c b h1 h2 h3 => ?_⟩
          rcases cas i c h1 h2 with h | ⟨rfl, rfl⟩
          · rw [ih i c h h2] at h3; cases h3
          · rw [hr] at h3; cases h3; simp
        | some x =>
          rw [hs] at ih
          dsimp only
          obtain ⟨⟨i, c, b, h1, h2, h3, h4⟩, h5⟩ := ih
          split
          · rename_i hlt
            refine ⟨⟨n, c0, b0, by omega, hc, hr, rfl⟩, fun i c b h1 h2 h3 => ?_⟩
            rcases cas i c h1 h2 with h | ⟨rfl, rfl⟩
            · have := h5 i c b h h2 h3
              simp only [List.length_cons]
              omega
            · rw [hr] at h3; cases h3; simp
          · rename_i hlt
            refine ⟨⟨i, c, b, by omega, h2, h3, h4⟩, fun i c b h1 h2 h3 => ?_⟩
            rcases cas i c h1 h2 with h | ⟨rfl, rfl⟩
            · exact h5 i c b h h2 h3
            · rw [hr] at h3; cases h3; omega
/-- A row by its favorites. -/
def fav (l : List Int) (many : Nat) : Option (List UInt8) :=
  if Po.favs l many = [] then none else
    match short (Po.favs l many) with
    | none => none
    | some a => match short (Po.tokens (Po.favs l many) l) with
      | none => none
      | some b => match short (Po.left (Po.favs l many) l) with
        | none => none
        | some c => some (255 :: UInt8.ofNat (Po.favs l many).length :: (a ++ b ++ c))
def better (best : List UInt8) : Option (List UInt8) → List UInt8
  | none => best
  | some b => if b.length < best.length then b else best
/-- A band's bytes. -/
def bandW (l : List Int) : Option (List UInt8) := (short l).map fun s => if l.length < 8 then s else better (better (better s (fav l 1)) (fav l 3)) (fav l 15)
def joinR (n : Nat) : List UInt8 → Except Int (List Int × List UInt8)
  | [] => .error 6
  | m :: r => if m.toNat < 1 ∨ 15 < m.toNat then .error 2 else
    match nextR m.toNat r with
    | .error e => .error e
    | .ok (fs, r1) => match nextR n r1 with
      | .error e => .error e
      | .ok (ts, r2) => match nextR (ts.count 0) r2 with
        | .error e => .error e
        | .ok (rs, r3) => if Po.err fs ts rs = 0 then .ok (Po.out fs ts rs, r3) else .error (Po.err fs ts rs)
/-- A band that bytes begin with. -/
def bandR (n : Nat) : List UInt8 → Except Int (List Int × List UInt8)
  | [] => .error 6
  | k :: r => if k = 255 then joinR n r else plainR k.toNat n r
theorem nextR_cons (n : Nat) (k : UInt8) (r : List UInt8) : nextR n (k :: r) = plainR k.toNat n r := rfl
theorem bandR_join (n : Nat) (r : List UInt8) : bandR n (255 :: r) = joinR n r := rfl
theorem bandR_cons {n : Nat} {k : UInt8} (hk : k ≠ 255) (r : List UInt8) : bandR n (k :: r) = plainR k.toNat n r := by
  show (if k = 255 then joinR n r else plainR k.toNat n r) = _
  rw [if_neg hk]
theorem joinR_cons {n : Nat} {m : UInt8} (hm : ¬ (m.toNat < 1 ∨ 15 < m.toNat)) (r : List UInt8) : joinR n (m :: r) = (match nextR m.toNat r with
    | .error e => .error e
    | .ok (fs, r1) => match nextR n r1 with
      | .error e => .error e
      | .ok (ts, r2) => match nextR (ts.count 0) r2 with
        | .error e => .error e
        | .ok (rs, r3) => if Po.err fs ts rs = 0 then .ok (Po.out fs ts rs, r3) else .error (Po.err fs ts rs)) := by
  show (if m.toNat < 1 ∨ 15 < m.toNat then Except.error 2 else _) = _
  rw [if_neg hm]
theorem cods_len : cods.length = 15 := rfl
theorem next_short {l : List Int} {x : List UInt8} (h : short l = some x) (r : List UInt8) : ∃ k b, x = UInt8.ofNat k :: b ∧ k < 15 ∧ nextR l.length (x ++ r) = .ok (l, r) ∧ plainR k l.length (b ++ r) = .ok (l, r) := by
  have hs := shortTo_is l 15
  rw [show shortTo l 15 = some x from h] at hs
  obtain ⟨⟨i, c, b, h1, h2, h3, h4⟩, _⟩ := hs
  have hp : plainR i l.length (b ++ r) = .ok (l, r) := by
    unfold plainR
    rw [h2]
    dsimp only
    have hlen := c.row_len l 0 b h3
    rw [if_neg (by rw [List.length_append]; omega)]
    exact c.read_row (cods_ok c (List.mem_of_getElem? h2)) l 0 b r h3
  refine ⟨i, b, h4, h1, ?_, hp⟩
  rw [h4, List.cons_append, nextR_cons, ofNat_lt (by omega)]
  exact hp
theorem favs_bound (l : List Int) (k : Nat) (hk : k ≤ 15) : (Po.favs l k).length ≤ 15 := Nat.le_trans (Po.favs_length l k) hk
theorem band_fav {l : List Int} {many : Nat} (hm : many ≤ 15) {x : List UInt8} (h : fav l many = some x) (r : List UInt8) : bandR l.length (x ++ r) = .ok (l, r) := by
  unfold fav at h
  split at h
  · cases h
  · rename_i hne
    have hnd := (Po.favs_facts l many).1
    have hfl := favs_bound l many hm
    generalize Po.favs l many = fs at *
    cases ha : short fs with
    | none => rw [ha] at h; cases h
    | some a =>
      rw [ha] at h
      cases hb : short (Po.tokens fs l) with
      | none => rw [hb] at h; cases h
      | some b =>
        rw [hb] at h
        cases hc : short (Po.left fs l) with
        | none => rw [hc] at h; cases h
        | some c =>
          rw [hc] at h
          simp only [Option.some.injEq] at h
          have hpos : 1 ≤ fs.length := List.length_pos_iff.2 hne
          rw [← h]
          show bandR l.length (255 :: UInt8.ofNat fs.length :: (a ++ b ++ c) ++ r) = _
          have e : (255 : UInt8) :: UInt8.ofNat fs.length :: (a ++ b ++ c) ++ r = 255 :: UInt8.ofNat fs.length :: (a ++ (b ++ (c ++ r))) := by simp [List.append_assoc]
          rw [e, bandR_join, joinR_cons (by rw [ofNat_lt (by omega)]; omega), ofNat_lt (by omega)]
          obtain ⟨_, _, _, _, n1, _⟩ := next_short ha (b ++ (c ++ r))
          obtain ⟨_, _, _, _, n2, _⟩ := next_short hb (c ++ r)
          obtain ⟨_, _, _, _, n3, _⟩ := next_short hc r
          rw [n1]
          dsimp only
          rw [show l.length = (Po.tokens fs l).length from by unfold Po.tokens; rw [List.length_map], n2]
          dsimp only
          rw [Po.count_tokens, n3]
          dsimp only
          rw [if_pos (Po.back_err hnd l), Po.back_out hnd l]
/-- What is written is read as it was. -/
theorem band_back {l : List Int} {x : List UInt8} (h : bandW l = some x) (r : List UInt8) : bandR l.length (x ++ r) = .ok (l, r) := by
  unfold bandW at h
  cases hs : short l with
  | none => rw [hs] at h; cases h
  | some s =>
    rw [hs] at h
    simp only [Option.map_some, Option.some.injEq] at h
    have h0 : bandR l.length (s ++ r) = .ok (l, r) := by
      obtain ⟨k, b, rfl, hk, _, h2⟩ := next_short hs r
      have hne : UInt8.ofNat k ≠ 255 := fun e => by
        have h3 := congrArg UInt8.toNat e
        rw [ofNat_lt (by omega)] at h3
        have h4 : (255 : UInt8).toNat = 255 := rfl
        omega
      rw [List.cons_append, bandR_cons hne, ofNat_lt (by omega)]
      exact h2
    have hb : ∀ (best : List UInt8) (m : Nat), m ≤ 15 → bandR l.length (best ++ r) = .ok (l, r) → bandR l.length (better best (fav l m) ++ r) = .ok (l, r) := fun best m hm hbst => by
      cases hf : fav l m with
      | none => exact hbst
      | some y =>
        unfold better
        dsimp only
        split
        · exact band_fav hm hf r
        · exact hbst
    split at h
    · rw [← h]; exact h0
    · rw [← h]
      exact hb _ 15 (by decide) (hb _ 3 (by decide) (hb _ 1 (by decide) h0))
theorem better_le (best : List UInt8) (o : Option (List UInt8)) : (better best o).length ≤ best.length := by
  unfold better
  cases o with
  | none => exact Nat.le_refl _
  | some b => dsimp only; split <;> omega
/-- It is no longer than by any coding alone. -/
theorem band_short {l : List Int} {x : List UInt8} (h : bandW l = some x) {i : Nat} {c : Cod} {b : List UInt8} (hc : cods[i]? = some c) (hr : c.row 0 l = some b) : x.length ≤ b.length + 1 := by
  unfold bandW at h
  cases hs : short l with
  | none => rw [hs] at h; cases h
  | some s =>
    rw [hs] at h
    simp only [Option.map_some, Option.some.injEq] at h
    have h1 := shortTo_is l 15
    rw [show shortTo l 15 = some s from hs] at h1
    have h2 := h1.2 i c b (by have := (List.getElem?_eq_some_iff.1 hc).1; rw [cods_len] at this; exact this) hc hr
    split at h
    · rw [← h]; exact h2
    · rw [← h]
      exact Nat.le_trans (better_le _ _) (Nat.le_trans (better_le _ _) (Nat.le_trans (better_le _ _) h2))
theorem row_bound (c : Cod) : ∀ (l : List Int) (last : Int) (b : List UInt8), c.row last l = some b → ∀ v ∈ l, boundI c.s v = true
  | [], _, _, _, v, hv => by cases hv
  | x :: l, last, b, h, v, hv => by
    unfold Cod.row at h
    split at h
    · rename_i hb
      cases hr : c.row x l with
      | none => rw [hr] at h; cases h
      | some b' =>
        rcases List.mem_cons.1 hv with rfl | hv
        · exact hb.1
        · exact row_bound c l x b' hr v hv
    · cases h
theorem row_some (c : Cod) (hd : c.d = 0) (hf : ∀ v, boundI c.s v = true → c.fits (plainI c.s v) = true) : ∀ (l : List Int) (last : Int), (∀ v ∈ l, boundI c.s v = true) → ∃ b, c.row last l = some b
  | [], _, _ => ⟨[], rfl⟩
  | x :: l, last, h => by
    obtain ⟨b, hb⟩ := row_some c hd hf l x fun v hv => h v (List.mem_cons_of_mem _ hv)
    have hx := h x (List.mem_cons_self ..)
    have e : c.diff last x = x := by unfold Cod.diff; rw [if_neg (by omega)]
    unfold Cod.row
    rw [e, if_pos ⟨hx, hf x hx⟩, hb]
    exact ⟨_, rfl⟩
/-- May numbers stand in a row? -/
def boundsI (l : List Int) : Bool := l.all (boundI 0) || l.all (boundI 1)
theorem short_none {l : List Int} (h : short l = none) : boundsI l = false := by
  have hs := shortTo_is l 15
  rw [show shortTo l 15 = none from h] at hs
  cases hb : boundsI l with
  | false => rfl
  | true =>
    exfalso
    unfold boundsI at hb
    rw [Bool.or_eq_true, List.all_eq_true, List.all_eq_true] at hb
    rcases hb with hb | hb
    · obtain ⟨b, hr⟩ := row_some ⟨5, 64, 0, 0⟩ rfl (fun v hv => by
        unfold boundI at hv
        simp only [if_true] at hv
        have := of_decide_eq_true hv
        unfold Cod.fits plainI Cod.reach
        rw [show min (reachU 64 (5 - 1)) 4294967296 = 4294967296 from by decide]
        exact decide_eq_true (by simp only [if_true]; omega)) l 0 hb
      rw [hs 0 ⟨5, 64, 0, 0⟩ (by decide) rfl] at hr
      cases hr
    · obtain ⟨b, hr⟩ := row_some ⟨5, 64, 1, 0⟩ rfl (fun v hv => by
        unfold boundI at hv
        simp only [show ¬ (1 : Nat) = 0 from by decide, if_false] at hv
        have := of_decide_eq_true hv
        unfold Cod.fits plainI Cod.reach
        rw [show min (reachU 64 (5 - 1)) 4294967296 = 4294967296 from by decide]
        simp only [show ¬ (1 : Nat) = 0 from by decide, if_false, show (2 : Int) ^ 1 = 2 from rfl]
        refine decide_eq_true ?_
        by_cases hv0 : v < 0
        · simp only [hv0, if_true]; omega
        · simp only [hv0, if_false]; omega) l 0 hb
      rw [hs 1 ⟨5, 64, 1, 0⟩ (by decide) rfl] at hr
      cases hr
theorem short_some {l : List Int} {x : List UInt8} (h : short l = some x) : boundsI l = true := by
  have hs := shortTo_is l 15
  rw [show shortTo l 15 = some x from h] at hs
  obtain ⟨⟨i, c, b, _, _, h3, _⟩, _⟩ := hs
  have hb := row_bound c l 0 b h3
  unfold boundsI
  rw [Bool.or_eq_true, List.all_eq_true, List.all_eq_true]
  by_cases h0 : c.s = 0
  · exact .inl fun v hv => by have := hb v hv; rwa [h0] at this
  · refine .inr fun v hv => ?_
    have := hb v hv
    unfold boundI at this ⊢
    rw [if_neg h0] at this
    rw [if_neg (by decide)]
    exact this
theorem short_bounds (l : List Int) : (short l).isSome = boundsI l := by
  cases h : short l with
  | none => rw [short_none h]; rfl
  | some x => rw [short_some h]; rfl
theorem bandW_some (l : List Int) : (bandW l).isSome = boundsI l := by
  unfold bandW
  rw [← short_bounds]
  cases short l <;> rfl
end Go.Proofs.Ytbdkoagagcemcaa

/- Layer 26 plain: how long a band is; the law's reading is the program's. No program. -/
namespace Go.Proofs.Ytbdkoagagcemcaa
open Pp

theorem putU_le (h : Nat) : ∀ (k u : Nat), (putU h k u).length ≤ k + 1
  | 0, u => by simp [putU]
  | k + 1, u => by
    have := putU_le h k ((u - (256 - h)) / h)
    unfold putU
    split
    · simp
    · simp only [List.length_cons]; omega
theorem row_le (c : Cod) (hc : 1 ≤ c.b) : ∀ (l : List Int) (last : Int) (b : List UInt8), c.row last l = some b → b.length ≤ c.b * l.length
  | [], last, b, h => by
    simp only [Cod.row, Option.some.injEq] at h
    subst h
    simp
  | v :: l, last, b, h => by
    unfold Cod.row at h
    split at h
    · cases hr : c.row v l with
      | none => rw [hr] at h; cases h
      | some b' =>
        rw [hr] at h
        simp only [Option.map_some, Option.some.injEq] at h
        subst h
        have h1 := row_le c hc l v b' hr
        have h2 := putU_le c.h (c.b - 1) (plainI c.s (c.diff last v)).toNat
        rw [List.length_append, List.length_cons, Nat.mul_add, Nat.mul_one]
        omega
    · cases h
/-- A row in bounds is written by one of the first two codings. -/
theorem row_first {l : List Int} (hb : boundsI l = true) : ∃ (i : Nat) (c : Cod) (b : List UInt8), cods[i]? = some c ∧ c.b = 5 ∧ c.row 0 l = some b := by
  unfold boundsI at hb
  rw [Bool.or_eq_true, List.all_eq_true, List.all_eq_true] at hb
  rcases hb with hb | hb
  · obtain ⟨b, hr⟩ := row_some ⟨5, 64, 0, 0⟩ rfl (fun v hv => by
      unfold boundI at hv
      simp only [if_true] at hv
      have := of_decide_eq_true hv
      unfold Cod.fits plainI Cod.reach
      rw [show min (reachU 64 (5 - 1)) 4294967296 = 4294967296 from by decide]
      exact decide_eq_true (by simp only [if_true]; omega)) l 0 hb
    exact ⟨0, _, b, rfl, rfl, hr⟩
  · obtain ⟨b, hr⟩ := row_some ⟨5, 64, 1, 0⟩ rfl (fun v hv => by
      unfold boundI at hv
      simp only [show ¬ (1 : Nat) = 0 from by decide, if_false] at hv
      have := of_decide_eq_true hv
      unfold Cod.fits plainI Cod.reach
      rw [show min (reachU 64 (5 - 1)) 4294967296 = 4294967296 from by decide]
      simp only [show ¬ (1 : Nat) = 0 from by decide, if_false, show (2 : Int) ^ 1 = 2 from rfl]
      refine decide_eq_true ?_
      by_cases hv0 : v < 0
      · simp only [hv0, if_true]; omega
      · simp only [hv0, if_false]; omega) l 0 hb
    exact ⟨1, _, b, rfl, rfl, hr⟩
theorem bandW_len {l : List Int} {x : List UInt8} (h : bandW l = some x) : x.length ≤ 5 * l.length + 1 := by
  have hb : boundsI l = true := by
    rw [← bandW_some, h]
    rfl
  obtain ⟨i, c, b, h1, h2, h3⟩ := row_first hb
  have h4 := band_short h h1 h3
  have h5 := row_le c (by omega) l 0 b h3
  rw [h2] at h5
  omega
/-- What is read is no more than its bytes. -/
theorem read_len (c : Cod) : ∀ (n : Nat) (last : Int) (r : List UInt8) (q : List Int × List UInt8), c.read n last r = .ok q → q.1.length = n
  | 0, last, r, q, h => by
    simp only [Cod.read, Except.ok.injEq] at h
    subst h
    rfl
  | n + 1, last, r, q, h => by
    unfold Cod.read at h
    cases hg : c.get r with
    | error e => rw [hg] at h; cases h
    | ok p =>
      obtain ⟨v, r1⟩ := p
      rw [hg] at h
      dsimp only at h
      split at h
      · cases hr : c.read n (c.sum last v) r1 with
        | error e => rw [hr] at h; cases h
        | ok p =>
          obtain ⟨vs, r2⟩ := p
          rw [hr] at h
          simp only [Except.ok.injEq] at h
          subst h
          have := read_len c n _ _ _ hr
          simp only [List.length_cons]
          dsimp only at this
          omega
      · cases h
end Go.Proofs.Ytbdkoagagcemcaa

/- Plain laws on masks of int and of uint16; no program. -/
namespace Go.Proofs.Ytbdkoagagcemcaa
open Go.RowKit

theorem i64_mask (k : Nat) (hk : k ≤ 62) (n : Int) : bits .and .i64 n ((2 ^ k - 1 : Nat) : Int) = n % ((2 ^ k : Nat) : Int) := by
  have hp : 0 < 2 ^ k := Nat.two_pow_pos k
  have hb : (2 ^ k : Nat) ≤ 2 ^ 62 := Nat.pow_le_pow_right (by decide) hk
  have h1 : (BitVec.ofInt 64 ((2 ^ k - 1 : Nat) : Int)).toNat = 2 ^ k - 1 := by
    rw [BitVec.ofInt_natCast, BitVec.toNat_ofNat]; apply Nat.mod_eq_of_lt; have : (2:Nat) ^ 62 < 2 ^ 64 := by decide
    omega
  have key : (BitVec.ofInt 64 n &&& BitVec.ofInt 64 ((2 ^ k - 1 : Nat) : Int)).toNat = (n % ((2 ^ 64 : Nat) : Int)).toNat % 2 ^ k := by
    rw [BitVec.toNat_and, BitVec.toNat_ofInt, h1, Nat.and_two_pow_sub_one_eq_mod]
  show IntKind.i64.wrap ((BitVec.ofInt 64 n &&& BitVec.ofInt 64 ((2 ^ k - 1 : Nat) : Int)).toNat : Nat) = _
  rw [key, IntKind.wrap_i64]
  have hd : (2 ^ k : Nat) ∣ 2 ^ 64 := Nat.pow_dvd_pow 2 (by omega)
  have hnn : 0 ≤ n % ((2 ^ 64 : Nat) : Int) := Int.emod_nonneg _ (by decide)
  have e1 : (((n % ((2 ^ 64 : Nat) : Int)).toNat % 2 ^ k : Nat) : Int) = n % ((2 ^ k : Nat) : Int) := by
    rw [Int.natCast_emod, Int.toNat_of_nonneg hnn]
    exact Int.emod_emod_of_dvd n (by exact_mod_cast hd)
  rw [e1]
  have l1 : 0 ≤ n % ((2 ^ k : Nat) : Int) := Int.emod_nonneg _ (by omega)
  have l2 : n % ((2 ^ k : Nat) : Int) < ((2 ^ k : Nat) : Int) := Int.emod_lt_of_pos _ (by omega)
  have l3 : ((2 ^ k : Nat) : Int) ≤ 4611686018427387904 := by
    have : ((2 ^ k : Nat) : Int) ≤ ((2 ^ 62 : Nat) : Int) := by exact_mod_cast hb
    simpa using this
  generalize n % ((2 ^ k : Nat) : Int) = r at *
  generalize ((2 ^ k : Nat) : Int) = q at *
  omega
theorem i64_and1 (n : Int) : bits .and .i64 n 1 = n % 2 := i64_mask 1 (by decide) n
theorem i64_and3 (n : Int) : bits .and .i64 n 3 = n % 4 := i64_mask 2 (by decide) n
theorem i64_and7 (n : Int) : bits .and .i64 n 7 = n % 8 := i64_mask 3 (by decide) n
theorem i64_and255 (n : Int) : bits .and .i64 n 255 = n % 256 := i64_mask 8 (by decide) n

theorem wraps_u16 (n : Int) (h₀ : 0 ≤ n) (h₁ : n < 2 ^ 16) : IntKind.u16.wrap n = n := by rw [IntKind.wrap_u16]; omega
theorem u16_and15 (x : Int) (h₀ : 0 ≤ x) (h₁ : x < 65536) : bits .and .u16 x 15 = x % 16 := bits_mask .u16 16 (by decide) wraps_u16 4 (by decide) x h₀ h₁
theorem u16_and31 (x : Int) (h₀ : 0 ≤ x) (h₁ : x < 65536) : bits .and .u16 x 31 = x % 32 := bits_mask .u16 16 (by decide) wraps_u16 5 (by decide) x h₀ h₁
theorem u16_and63 (x : Int) (h₀ : 0 ≤ x) (h₁ : x < 65536) : bits .and .u16 x 63 = x % 64 := bits_mask .u16 16 (by decide) wraps_u16 6 (by decide) x h₀ h₁
theorem wraps_i64 (n : Int) (h₀ : 0 ≤ n) (h₁ : n < 2 ^ 62) : IntKind.i64.wrap n = n := by rw [IntKind.wrap_i64]; omega
/-- 'x | y' where x is a multiple of 2^i and y below it. -/
theorem i64_or (i : Nat) (x y : Int) (hx₀ : 0 ≤ x) (hx : x % 2 ^ i = 0) (hx₁ : x < 2 ^ 62) (hy₀ : 0 ≤ y) (hy : y < 2 ^ i) (hy₁ : y < 2 ^ 62) : bits .or .i64 x y = x + y :=
  bits_join .i64 62 (by decide) wraps_i64 i x y hx₀ hx hx₁ hy₀ hy hy₁
end Go.Proofs.Ytbdkoagagcemcaa

/- The walks of layer 24: whether a coding may be, its reach, a number's plain one and a plain one's number. -/
namespace Go.Proofs.Ytbdkoagagcemcaa
open Go.RowKit

/-- A coding's value. -/
def Cod.val (c : Cod) : Value := .agg #[.int .i64 c.b, .int .i64 c.h, .int .i64 c.s, .int .i64 c.d]
set_option maxRecDepth 100000 in
theorem right_any (c : Cod) (hc : c.ok) (w : World) : Calls Try.prog 67 #[c.val] w fun ex y => ex = .returned (.bool true) ∧ Below w.heap.size w y := by
  obtain ⟨h1, h2, h3, h4, h5, h6, h7, h8⟩ := hc
  obtain ⟨B, H, S, D⟩ := c
  dsimp only at *
  unfold Cod.val
  have p1 : decide ((B : Int) < 1) = false := decide_eq_false (by omega)
  have p2 : decide ((5 : Int) < (B : Int)) = false := decide_eq_false (by omega)
  have p3 : decide ((H : Int) < 2) = false := decide_eq_false (by omega)
  have p4 : decide ((256 : Int) < (H : Int)) = false := decide_eq_false (by omega)
  have p5 : decide ((S : Int) < 0) = false := decide_eq_false (by omega)
  have p6 : decide ((2 : Int) < (S : Int)) = false := decide_eq_false (by omega)
  obtain rfl | rfl : D = 0 ∨ D = 1 := by omega
  all_goals
    by_cases q1 : 1 < B
    · have r1 : decide ((1 : Int) < (B : Int)) = true := decide_eq_true (by omega)
      by_cases q2 : B < 5
      · have r2 : decide ((B : Int) < 5) = true := decide_eq_true (by omega)
        clear h7 h8
        go_enter Try.func67, Try.ntmps67
        go_wp2
        go_ret
        exact ⟨rfl, by first | exact Below.refl _ _ | exact (Below.refl _ _).alloc (Nat.le_refl _) _⟩
      · have r2 : decide ((B : Int) < 5) = false := decide_eq_false (by omega)
        have r3 : decide ((H : Int) < 256) = true := decide_eq_true (by omega)
        clear h7 h8
        go_enter Try.func67, Try.ntmps67
        go_wp2
        go_ret
        exact ⟨rfl, by first | exact Below.refl _ _ | exact (Below.refl _ _).alloc (Nat.le_refl _) _⟩
    · obtain rfl : H = 256 := by omega
      obtain rfl : B = 1 := by omega
      clear h7 h8
      go_enter Try.func67, Try.ntmps67
      go_wp2
      go_ret
      exact ⟨rfl, by first | exact Below.refl _ _ | exact (Below.refl _ _).alloc (Nat.le_refl _) _⟩
theorem reachU_pos (h : Nat) : ∀ k, h ≤ 256 → 1 ≤ reachU h k
  | 0, _ => by simp [reachU]
  | k + 1, hh => by
    have := reachU_pos h k hh
    have h2 : h * 1 ≤ h * reachU h k := Nat.mul_le_mul_left _ this
    unfold reachU
    omega
theorem reachU_le (h : Nat) (hh : h ≤ 256) : ∀ k, reachU h k ≤ 256 ^ (k + 1)
  | 0 => by simp [reachU]
  | k + 1 => by
    have h1 := reachU_pos h k hh
    have h2 := reachU_le h hh k
    have h3 : h * (reachU h k - 1) ≤ 256 * (reachU h k - 1) := Nat.mul_le_mul_right _ hh
    have h4 : h * (reachU h k - 1) = h * reachU h k - h := by rw [Nat.mul_sub, Nat.mul_one]
    have h5 : h * 1 ≤ h * reachU h k := Nat.mul_le_mul_left _ h1
    unfold reachU
    rw [Nat.pow_succ]
    omega
set_option maxRecDepth 100000 in
theorem reach_any (c : Cod) (hc : c.ok) (w : World) : Calls Try.prog 94 #[c.val] w fun ex y => ex = .returned (.int .i64 (c.reach : Int)) ∧ Below w.heap.size w y := by
  have HR := Lib.hid (fun w => right_any c hc w)
  have hh : c.h ≤ 256 := hc.2.2.2.1
  have h1 : 1 ≤ c.b := hc.1
  have h5 : c.b ≤ 5 := hc.2.1
  have hb := Lib.hid (fun k (hk : k ≤ 4) => Nat.le_trans (reachU_le c.h hh k) (Nat.pow_le_pow_right (by decide : 0 < 256) (by omega : k + 1 ≤ 5)))
  have hfin := Lib.hid (show c.reach = min (reachU c.h (c.b - 1)) 4294967296 from rfl)
  unfold Cod.val at *
  generalize c.b = B at *
  generalize c.h = H at *
  generalize c.s = S at *
  generalize c.d = D at *
  generalize c.reach = R at *
  clear hc c
  go_enter Try.func94, Try.ntmps94
  go_wp2_with fail
  refine (HR.out _).mono ?_
  rintro ex y ⟨rfl, hb1⟩
  have e1 := (blk_facts (hb1.block w.heap.size (by simp) |>.trans (heap_alloc_new w _))).1
  have c0 := e1 0
  have c1 := e1 1
  have hz : w.heap.size < y.heap.size := Nat.lt_of_lt_of_le (by simp) hb1.size
  have HB := Lib.hid (Below.after' ((Below.refl w.heap.size w).alloc (Nat.le_refl _) _) hb1 (by simp))
  clear hb1 e1 HR
  go_wp2_with fail
  go_loop [3, 10] (fun u t => ∃ i : Nat, i ≤ B - 1 ∧ t = .int .i64 i ∧ u = .int .i64 (reachU H i : Int)) (fun _ t => B - (intOf t).toNat)
  case atStart => exact ⟨0, Nat.zero_le _, rfl, rfl⟩
  case round =>
    obtain ⟨i, hi, rfl, rfl⟩ := hrel
    have hb0 := hb.out i (by omega)
    have eB : ((B : Int) - 1) = ((B - 1 : Nat) : Int) := by omega
    by_cases h2 : i < B - 1
    · have p1 : decide (i < B - 1) = true := decide_eq_true h2
      have hb2 := hb.out (i + 1) (by omega)
      have hm := Lib.hid (show (256 - (H : Int)) + (H : Int) * (reachU H i : Int) = (reachU H (i + 1) : Int) by
        rw [show reachU H (i + 1) = 256 - H + H * reachU H i from rfl, Int.natCast_add, Int.natCast_mul, Int.ofNat_sub hh]; rfl)
      have hp0 : 0 ≤ (H : Int) * (reachU H i : Int) := Int.mul_nonneg (by omega) (by omega)
      have hp1 : (H : Int) * (reachU H i : Int) ≤ 2000000000000 := by have := hm.out; omega
      have q1 : decide ((i : Int) < (B : Int) - 1) = true := decide_eq_true (by omega)
      have hq := Lib.hid hb2
      clear hb2 eB
      generalize hr2 : reachU H (i + 1) = r2 at *
      have HR2 := Lib.hid hr2
      clear hr2
      go_wp2_with fail
      go_round
      case rel => exact ⟨i + 1, by omega, by go_num, by rw [hm.out, HR2.out]⟩
      case measure => simp [intOf]; omega
    · obtain rfl : i = B - 1 := by omega
      have q1 : decide (((B - 1 : Nat) : Int) < (B : Int) - 1) = false := decide_eq_false (by omega)
      clear eB h2 hi
      have hm := hfin.out
      go_wp2_with fail
      all_goals go_ret
      all_goals exact ⟨ret_int (by omega), HB.out⟩
end Go.Proofs.Ytbdkoagagcemcaa

/- Layer 24 plain: a number's plain one as it is reckoned; reading told from behind. No program. -/
namespace Go.Proofs.Ytbdkoagagcemcaa

/-- A number's plain one, -1 far out of reach. -/
def plainP (s : Nat) (v : Int) : Int := if v < -8589934592 ∨ 8589934592 < v then -1 else plainI s v
theorem plainP_fits (c : Cod) (hs : c.s ≤ 2) (v : Int) : c.fits (plainP c.s v) = c.fits (plainI c.s v) := by
  unfold plainP
  split
  · rename_i h
    have hr : (c.reach : Int) ≤ 4294967296 := by unfold Cod.reach; omega
    unfold Cod.fits
    rw [decide_eq_false (by omega)]
    symm
    apply decide_eq_false
    unfold plainI
    obtain h0 | h1 | h2 : c.s = 0 ∨ c.s = 1 ∨ c.s = 2 := by omega
    · rw [if_pos h0]; omega
    · simp only [h1, show ¬ (1 : Nat) = 0 from by decide, if_false, show (2 : Int) ^ 1 = 2 from rfl]
      split <;> omega
    · simp only [h2, show ¬ (2 : Nat) = 0 from by decide, if_false, show (2 : Int) ^ 2 = 4 from rfl]
      split <;> omega
  · rfl
theorem plainP_eq {s : Nat} {v : Int} (h1 : -8589934592 ≤ v) (h2 : v ≤ 8589934592) : plainP s v = plainI s v := by
  unfold plainP
  rw [if_neg (by omega)]
theorem boundI_in {s : Nat} {v : Int} (h : boundI s v = true) : -2147483648 ≤ v ∧ v < 4294967296 := by
  unfold boundI at h
  split at h
  · have := of_decide_eq_true h; omega
  · have := of_decide_eq_true h; omega
theorem roundI_in (s : Nat) (v : Int) : -2147483648 ≤ roundI s v ∧ roundI s v < 4294967296 := boundI_in (round_bound s v)
theorem plainI_in {s : Nat} (hs : s ≤ 2) {v : Int} (h1 : -8589934592 ≤ v) (h2 : v ≤ 8589934592) : -8589934592 ≤ plainI s v ∧ plainI s v ≤ 68719476736 := by
  unfold plainI
  obtain rfl | rfl | rfl : s = 0 ∨ s = 1 ∨ s = 2 := by omega
  · simp only [if_true]; omega
  · simp only [show ¬ (1 : Nat) = 0 from by decide, if_false, show (2 : Int) ^ 1 = 2 from rfl]
    split <;> omega
  · simp only [show ¬ (2 : Nat) = 0 from by decide, if_false, show (2 : Int) ^ 2 = 4 from rfl]
    split <;> omega
theorem plainP_in {s : Nat} (hs : s ≤ 2) (v : Int) : -8589934592 ≤ plainP s v ∧ plainP s v ≤ 68719476736 := by
  unfold plainP
  split
  · omega
  · exact plainI_in hs (by omega) (by omega)
/-- What is read, behind what was. -/
def pre (vs : List Int) : Except Int (List Int × List UInt8) → Except Int (List Int × List UInt8)
  | .error e => .error e
  | .ok p => .ok (vs ++ p.1, p.2)
theorem pre_nil (x : Except Int (List Int × List UInt8)) : pre [] x = x := by cases x <;> rfl
theorem pre_pre (a b : List Int) (x : Except Int (List Int × List UInt8)) : pre a (pre b x) = pre (a ++ b) x := by
  cases x with
  | error e => rfl
  | ok p => simp [pre]
theorem Cod.read_succ (c : Cod) (n : Nat) (last : Int) (l : List UInt8) : c.read (n + 1) last l = match c.get l with
    | .error e => .error e
    | .ok p => if boundI c.s p.1 = true then pre [c.sum last p.1] (c.read n (c.sum last p.1) p.2) else .error 5 := by
  conv => lhs; unfold Cod.read
  cases c.get l with
  | error e => rfl
  | ok p =>
    obtain ⟨v, r⟩ := p
    dsimp only
    split
    · cases c.read n (c.sum last v) r with
      | error e => rfl
      | ok q => rfl
    · rfl
theorem Cod.read_bad (c : Cod) (n : Nat) (last : Int) {l : List UInt8} {e : Int} (h : c.get l = .error e) : c.read (n + 1) last l = .error e := by
  rw [Cod.read_succ, h]
theorem Cod.read_out (c : Cod) (n : Nat) (last : Int) {l : List UInt8} {v : Int} {r : List UInt8} (h : c.get l = .ok (v, r)) (hb : boundI c.s v = false) : c.read (n + 1) last l = .error 5 := by
  rw [Cod.read_succ, h]
  dsimp only
  rw [if_neg (by rw [hb]; decide)]
theorem Cod.read_ok (c : Cod) (n : Nat) (last : Int) {l : List UInt8} {v : Int} {r : List UInt8} (h : c.get l = .ok (v, r)) (hb : boundI c.s v = true) : c.read (n + 1) last l = pre [c.sum last v] (c.read n (c.sum last v) r) := by
  rw [Cod.read_succ, h]
  dsimp only
  rw [if_pos hb]
/-- A row's bytes, behind what was. -/
def preB (b : List UInt8) : Option (List UInt8) → Option (List UInt8)
  | none => none
  | some x => some (b ++ x)
theorem preB_nil (x : Option (List UInt8)) : preB [] x = x := by cases x <;> rfl
theorem preB_pre (a b : List UInt8) (x : Option (List UInt8)) : preB a (preB b x) = preB (a ++ b) x := by
  cases x with
  | none => rfl
  | some p => simp [preB]
theorem Cod.row_ok (c : Cod) (last v : Int) (l : List Int) (hb : boundI c.s v = true) (hf : c.fits (plainI c.s (c.diff last v)) = true) : c.row last (v :: l) = preB (putU c.h (c.b - 1) (plainI c.s (c.diff last v)).toNat) (c.row v l) := by
  conv => lhs; unfold Cod.row
  rw [if_pos ⟨hb, hf⟩]
  cases c.row v l <;> rfl
theorem Cod.row_out (c : Cod) (last v : Int) (l : List Int) (h : ¬ (boundI c.s v = true ∧ c.fits (plainI c.s (c.diff last v)) = true)) : c.row last (v :: l) = none := by
  conv => lhs; unfold Cod.row
  rw [if_neg h]
/-- Of what is read: it may be as great as a row's numbers are. -/
theorem Cod.get_in (c : Cod) (hc : c.ok) {l : List UInt8} {p : Int × List UInt8} (h : c.get l = .ok p) : -8589934592 ≤ p.1 ∧ p.1 ≤ 8589934592 := by
  unfold Cod.get at h
  cases hg : getU c.h (c.b - 1) l with
  | none => rw [hg] at h; cases h
  | some q =>
    obtain ⟨u, r⟩ := q
    rw [hg] at h
    dsimp only at h
    split at h
    · cases h
    · cases h
      dsimp only
      unfold numI
      obtain ⟨_, _, _, _, hs, _⟩ := hc
      obtain h0 | h1 | h2 : c.s = 0 ∨ c.s = 1 ∨ c.s = 2 := by omega
      · rw [if_pos h0]; omega
      · simp only [h1, show ¬ (1 : Nat) = 0 from by decide, if_false, show (2 : Int) ^ 1 = 2 from rfl]
        split <;> omega
      · simp only [h2, show ¬ (2 : Nat) = 0 from by decide, if_false, show (2 : Int) ^ 2 = 4 from rfl]
        split <;> omega
theorem Cod.sum_in (c : Cod) (last : Int) {v : Int} (h : boundI c.s v = true) : -2147483648 ≤ c.sum last v ∧ c.sum last v < 4294967296 := by
  unfold Cod.sum
  split
  · exact roundI_in _ _
  · exact boundI_in h
theorem get_rest {h : Nat} : ∀ (k : Nat) (l : List UInt8) (p : Nat × List UInt8), getU h k l = some p → ∃ n, 1 ≤ n ∧ n ≤ l.length ∧ n ≤ k + 1 ∧ p.2 = l.drop n
  | k, [], p, e => by cases k <;> simp [getU] at e
  | 0, x :: l, p, e => by
    simp only [getU, Option.some.injEq] at e
    rw [← e]
    exact ⟨1, Nat.le_refl _, by simp, Nat.le_refl _, rfl⟩
  | k + 1, x :: l, p, e => by
    simp only [getU] at e
    split at e
    · simp only [Option.some.injEq] at e
      rw [← e]
      exact ⟨1, Nat.le_refl _, by simp, by omega, rfl⟩
    · cases hg : getU h k l with
      | none => rw [hg] at e; cases e
      | some q =>
        rw [hg] at e
        simp only [Option.map_some, Option.some.injEq] at e
        obtain ⟨n, h1, h2, h3, h4⟩ := get_rest k l q hg
        rw [← e]
        exact ⟨n + 1, by omega, by simp only [List.length_cons]; omega, by omega, by dsimp only; rw [h4, List.drop_succ_cons]⟩
end Go.Proofs.Ytbdkoagagcemcaa

/- The walks of layer 24: a number's plain one and a plain one's number, bounds, and going round into them. -/
namespace Go.Proofs.Ytbdkoagagcemcaa
open Go.RowKit

theorem i64_not (x : Int) (h : I64 x) : bits .xor .i64 (-1) x = -1 - x := by
  show IntKind.i64.wrap ((BitVec.ofInt 64 (-1) ^^^ BitVec.ofInt 64 x).toNat : Nat) = _
  unfold I64 at h
  have e : BitVec.ofInt 64 (-1) = BitVec.allOnes 64 := by decide
  rw [e, BitVec.allOnes_xor, BitVec.toNat_not, BitVec.toNat_ofInt, IntKind.wrap_i64]
  omega
theorem small_s {c : Cod} (hc : c.ok) : c.s = 0 ∨ c.s = 1 ∨ c.s = 2 := by have := hc.2.2.2.2.1; omega
set_option maxRecDepth 100000 in
theorem bound_any (c : Cod) (hc : c.ok) (v : Int) (hv : I64 v) (w : World) : Calls Try.prog 68 #[c.val, .int .i64 v] w fun ex y => ex = .returned (.bool (boundI c.s v)) ∧ Below w.heap.size w y := by
  have h := small_s hc
  unfold I64 at hv
  unfold Cod.val boundI
  generalize c.b = B
  generalize c.h = H
  generalize c.d = D
  generalize c.s = S at *
  clear hc c
  rcases h with rfl | rfl | rfl
  all_goals
    go_enter Try.func68, Try.ntmps68
    go_wp2_with fail
    go_ret
    refine ⟨ret_bool ?_, (Below.refl _ _).alloc (Nat.le_refl _) _⟩
    rw [Bool.eq_iff_iff]
    try unfold wrap64 wrap32
    simp
    omega
set_option maxRecDepth 100000 in
theorem round_any (c : Cod) (hc : c.ok) (v : Int) (hv : I64 v) (w : World) : Calls Try.prog 70 #[c.val, .int .i64 v] w fun ex y => ex = .returned (.int .i64 (roundI c.s v)) ∧ Below w.heap.size w y := by
  have h := small_s hc
  unfold I64 at hv
  unfold Cod.val roundI
  generalize c.b = B
  generalize c.h = H
  generalize c.d = D
  generalize c.s = S at *
  clear hc c
  rcases h with rfl | rfl | rfl
  all_goals
    go_enter Try.func70, Try.ntmps70
    go_wp2_with fail
    go_ret
    refine ⟨ret_int ?_, (Below.refl _ _).alloc (Nat.le_refl _) _⟩
    try simp
    try unfold wrap64 wrap32
    try omega
set_option maxRecDepth 100000 in
theorem plain_any (c : Cod) (hc : c.ok) (v : Int) (hv : I64 v) (w : World) : Calls Try.prog 69 #[c.val, .int .i64 v] w fun ex y => ex = .returned (.int .i64 (plainP c.s v)) ∧ Below w.heap.size w y := by
  have h := small_s hc
  unfold I64 at hv
  unfold Cod.val plainP
  generalize c.b = B
  generalize c.h = H
  generalize c.d = D
  generalize c.s = S at *
  clear hc c
  by_cases h1 : v < -8589934592
  · have p1 : decide (v < -8589934592) = true := decide_eq_true h1
    rw [if_pos (.inl h1)]
    go_enter Try.func69, Try.ntmps69
    go_wp2_with fail
    go_ret
    exact ⟨rfl, (Below.refl _ _).alloc (Nat.le_refl _) _⟩
  · have p1 : decide (v < -8589934592) = false := decide_eq_false h1
    by_cases h2 : 8589934592 < v
    · have p2 : decide (8589934592 < v) = true := decide_eq_true h2
      rw [if_pos (.inr h2)]
      go_enter Try.func69, Try.ntmps69
      go_wp2_with fail
      go_ret
      exact ⟨rfl, (Below.refl _ _).alloc (Nat.le_refl _) _⟩
    · have p2 : decide (8589934592 < v) = false := decide_eq_false h2
      rw [if_neg (by omega)]
      unfold plainI
      by_cases h3 : v < 0
      · have p3 : decide (v < 0) = true := decide_eq_true h3
        have hn := i64_not v hv
        rcases h with rfl | rfl | rfl
        · go_enter Try.func69, Try.ntmps69
          go_wp2_with fail
          go_ret
          exact ⟨rfl, (Below.refl _ _).alloc (Nat.le_refl _) _⟩
        · go_enter Try.func69, Try.ntmps69
          go_wp2_with fail
          go_ret
          refine ⟨ret_int ?_, (Below.refl _ _).alloc (Nat.le_refl _) _⟩
          rw [show wrap64 ((-1 - v) * 2) = (-1 - v) * 2 from by unfold wrap64; omega, i64_or 1 _ _ (by omega) (by omega) (by omega) (by omega) (by omega) (by omega)]
        · go_enter Try.func69, Try.ntmps69
          go_wp2_with fail
          go_ret
          refine ⟨ret_int ?_, (Below.refl _ _).alloc (Nat.le_refl _) _⟩
          rw [show wrap64 ((-1 - v) * 4) = (-1 - v) * 4 from by unfold wrap64; omega, i64_or 2 _ _ (by omega) (by omega) (by omega) (by omega) (by omega) (by omega)]
      · have p3 : decide (v < 0) = false := decide_eq_false h3
        rcases h with rfl | rfl | rfl
        all_goals
          go_enter Try.func69, Try.ntmps69
          go_wp2_with fail
          go_ret
          refine ⟨ret_int ?_, (Below.refl _ _).alloc (Nat.le_refl _) _⟩
          simp [h3]
          try omega
set_option maxRecDepth 100000 in
theorem number_any (c : Cod) (hc : c.ok) (u : Int) (h0 : 0 ≤ u) (hu : u ≤ 2000000000000) (w : World) : Calls Try.prog 101 #[c.val, .int .i64 u] w fun ex y => ex = .returned (.int .i64 (numI c.s u)) ∧ Below w.heap.size w y := by
  have h := small_s hc
  unfold Cod.val numI
  generalize c.b = B
  generalize c.h = H
  generalize c.d = D
  generalize c.s = S at *
  clear hc c
  have n2 := i64_not (u / 2) (by unfold I64; omega)
  have n4 := i64_not (u / 4) (by unfold I64; omega)
  rcases h with rfl | rfl | rfl
  · go_enter Try.func101, Try.ntmps101
    go_wp2_with fail
    go_ret
    exact ⟨rfl, (Below.refl _ _).alloc (Nat.le_refl _) _⟩
  · by_cases h1 : u % 2 = 1
    · have q : (bits .and .i64 u 1 == 1) = true := by rw [i64_and1, h1]; rfl
      go_enter Try.func101, Try.ntmps101
      go_wp2_with fail
      go_ret
      refine ⟨ret_int ?_, (Below.refl _ _).alloc (Nat.le_refl _) _⟩
      simp [h1]
      try omega
    · have q : (bits .and .i64 u 1 == 1) = false := by rw [i64_and1]; simpa using h1
      go_enter Try.func101, Try.ntmps101
      go_wp2_with fail
      go_ret
      refine ⟨ret_int ?_, (Below.refl _ _).alloc (Nat.le_refl _) _⟩
      simp [h1]
  · by_cases h1 : u % 4 = 3
    · have q : (bits .and .i64 u 3 == 3) = true := by rw [i64_and3, h1]; rfl
      go_enter Try.func101, Try.ntmps101
      go_wp2_with fail
      go_ret
      refine ⟨ret_int ?_, (Below.refl _ _).alloc (Nat.le_refl _) _⟩
      simp [h1]
      try omega
    · have q : (bits .and .i64 u 3 == 3) = false := by rw [i64_and3]; simpa using h1
      go_enter Try.func101, Try.ntmps101
      go_wp2_with fail
      go_ret
      refine ⟨ret_int ?_, (Below.refl _ _).alloc (Nat.le_refl _) _⟩
      simp [h1]
set_option maxRecDepth 100000 in
theorem fits_any (c : Cod) (hc : c.ok) (u : Int) (w : World) : Calls Try.prog 71 #[c.val, .int .i64 u] w fun ex y => ex = .returned (.bool (c.fits u)) ∧ Below w.heap.size w y := by
  have HR := Lib.hid (fun w => reach_any c hc w)
  have hfin := Lib.hid (show c.fits u = (decide (0 ≤ u) && decide (u < (c.reach : Int))) by unfold Cod.fits; rw [Bool.decide_and])
  unfold Cod.val at *
  generalize c.fits u = F at *
  generalize c.reach = R at *
  generalize c.b = B at *
  generalize c.h = H at *
  generalize c.d = D at *
  generalize c.s = S at *
  clear hc c
  by_cases h0 : 0 ≤ u
  · have p0 : decide (0 ≤ u) = true := decide_eq_true h0
    go_enter Try.func71, Try.ntmps71
    go_wp2_with fail
    refine (HR.out _).mono ?_
    rintro ex y ⟨rfl, hb1⟩
    have HB := Lib.hid (Below.after' ((Below.refl w.heap.size w).alloc (Nat.le_refl _) _) hb1 (by simp))
    clear hb1 HR
    go_wp2_with fail
    go_ret
    exact ⟨by rw [hfin.out, p0]; rfl, HB.out⟩
  · have p0 : decide (0 ≤ u) = false := decide_eq_false h0
    go_enter Try.func71, Try.ntmps71
    go_wp2_with fail
    go_ret
    exact ⟨by rw [hfin.out, p0]; rfl, (Below.refl _ _).alloc (Nat.le_refl _) _⟩
end Go.Proofs.Ytbdkoagagcemcaa

/- Rows of bytes that are read. -/
namespace Go.Proofs.Ytbdkoagagcemcaa
open Go.RowKit

theorem addr_addB (g o j : Nat) : Addr.add ⟨g, o, none⟩ j = ⟨g, o + j, none⟩ := by unfold Addr.add; split <;> simp_all
def BAt (w : World) (A : Option Addr) (c : Nat) (l : List UInt8) : Prop :=
  l.length ≤ c ∧ (0 < l.length → ∃ g o, A = some ⟨g, o, none⟩ ∧ g < w.heap.size ∧ ∀ (j : Nat) x, l[j]? = some x → w.cell? ⟨g, o + j, none⟩ = some (.int .u8 (x.toNat : Int)))
theorem BAt.keep {w w' : World} {A : Option Addr} {c : Nat} {l : List UInt8} (h : BAt w A c l) {B : Nat} (k : Below B w w') (hB : ∀ g o, A = some ⟨g, o, none⟩ → 0 < l.length → g < B) : BAt w' A c l :=
  ⟨h.1, fun hp => by
    obtain ⟨g, o, e, hg, hc⟩ := h.2 hp
    exact ⟨g, o, e, Nat.lt_of_lt_of_le hg (k.size), fun j x hx => (k.cell (p := ⟨g, _, none⟩) (hB g o e hp)).trans (hc j x hx)⟩⟩
theorem BAt.grow {w w' : World} {A : Option Addr} {c : Nat} {l : List UInt8} (h : BAt w A c l) (k : Below w.heap.size w w') : BAt w' A c l :=
  ⟨h.1, fun hp => by
    obtain ⟨g, o, e, hg, hc⟩ := h.2 hp
    exact ⟨g, o, e, Nat.lt_of_lt_of_le hg k.size, fun j x hx => (k.cell (p := ⟨g, _, none⟩) hg).trans (hc j x hx)⟩⟩
theorem BAt.nil (w : World) (A : Option Addr) (c : Nat) : BAt w A c [] := ⟨Nat.zero_le _, fun h => by simp at h⟩
theorem BAt.at_ {w : World} {A : Option Addr} {c : Nat} {b : List UInt8} (h : BAt w A c b) {i : Nat} (hi : i < b.length) : ∃ g o x, A = some ⟨g, o, none⟩ ∧ g < w.heap.size ∧ b[i]? = some x ∧ w.cell? ⟨g, o + i, none⟩ = some (.int .u8 (x.toNat : Int)) := by
  obtain ⟨g, o, e, hg, hc⟩ := h.2 (by omega)
  exact ⟨g, o, _, e, hg, List.getElem?_eq_getElem hi, hc i _ (List.getElem?_eq_getElem hi)⟩
theorem BAt.take {w : World} {A : Option Addr} {c : Nat} {b : List UInt8} (h : BAt w A c b) (k : Nat) : BAt w A c (b.take k) := by
  refine ⟨Nat.le_trans (by rw [List.length_take]; omega) h.1, fun hp => ?_⟩
  rw [List.length_take] at hp
  obtain ⟨g, o, e, hg, hc⟩ := h.2 (by omega)
  refine ⟨g, o, e, hg, fun j p hj => hc j p ?_⟩
  rw [List.getElem?_take] at hj
  split at hj
  · exact hj
  · cases hj
theorem BAt.text {w : World} {A : Option Addr} {c : Nat} {l : List UInt8} (h : BAt w A c l) : (convert 23 9 (.slice A l.length c)).run Try.prog w = .ok (.string (bs l)) w := by
  by_cases h0 : l.length = 0
  · obtain rfl := List.eq_nil_of_length_eq_zero h0
    cases A with
    | none =>
      rw [run_convert_bytes_string w 23 9 5 none ([] : List UInt8).length c Try.underlying23 Try.underlying5 Try.underlying9]
      rfl
    | some a => exact run_convert_bytes_back (P := Try.prog) w 23 9 5 a c [] Try.underlying23 Try.underlying5 Try.underlying9 (fun j hj => by simp at hj)
  · obtain ⟨g, o, rfl, hg, hc⟩ := h.2 (by omega)
    exact run_convert_bytes_back (P := Try.prog) w 23 9 5 ⟨g, o, none⟩ c l Try.underlying23 Try.underlying5 Try.underlying9 (fun j hj => by
      rw [addr_addB]; exact hc j _ (List.getElem?_eq_getElem hj))
theorem infoByte : (Try.prog.info? 5).map (fun i => (i.zero, i.size, i.bytes)) = some (some (.int .u8 0), 1, 1) := by kernel_rfl
theorem BRow.at_ {w : World} {base : Nat} {v : Value} {l : List UInt8} (h : BRow w base 5 v l) : ∃ A c, v = .slice A l.length c ∧ BAt w A c l := by
  have hc := fun (g : Nat) (hg : v.ownBlock = some g) => World.ownsRow.cells h hg
  rcases h.2 with ⟨rfl, hn⟩ | ⟨g, cap, cur, rfl, h1, h2, h3, _⟩
  · obtain rfl : l = [] := List.eq_nil_of_length_eq_zero hn
    exact ⟨none, 0, rfl, BAt.nil _ _ _⟩
  · refine ⟨_, cap, rfl, h3, fun _ => ⟨g, 0, rfl, (Array.getElem?_eq_some_iff.1 h2).1, fun j x hx => ?_⟩⟩
    have := hc g rfl j (.int .u8 (x.toNat : Int)) (by simp [cb, hx])
    rw [addr_addB] at this
    exact this
/-- Bytes that are read, as a source. -/
theorem BAt.src {w : World} {A : Option Addr} {c : Nat} {l : List UInt8} (h : BAt w A c l) : Src Try.prog 1 23 (.slice A l.length c) l.length (cb l) w := by
  by_cases h0 : l.length = 0
  · obtain rfl := List.eq_nil_of_length_eq_zero h0
    cases A with
    | none => exact Src.ofNil w Try.underlying23 c
    | some a => exact Src.ofSlice w Try.underlying23 a 0 c [] rfl (fun j u hu => by simp at hu) (fun u hu => by cases hu)
  · obtain ⟨g, o, rfl, hg, hc⟩ := h.2 (by omega)
    refine Src.ofSlice w Try.underlying23 ⟨g, o, none⟩ _ c (cb l) (by simp [cb]) (fun j u hu => ?_) (fun u hu => ?_)
    · rw [addr_addB]
      have : ∃ x, l[j]? = some x ∧ u = .int .u8 (x.toNat : Int) := by
        simp only [cb, List.getElem?_map, Option.map_eq_some_iff] at hu
        obtain ⟨x, h1, h2⟩ := hu
        exact ⟨x, h1, h2.symm⟩
      obtain ⟨x, hx, rfl⟩ := this
      exact hc j x hx
    · simp only [cb, List.mem_map] at hu
      obtain ⟨x, _, rfl⟩ := hu
      rfl
end Go.Proofs.Ytbdkoagagcemcaa

/- append onto a row that is the call's own, or one that is read and full (as slices.Clip leaves it). -/
namespace Go.Proofs.Ytbdkoagagcemcaa
open Go.RowKit

def BGood (w : World) (base : Nat) (u : Value) (l : List UInt8) : Prop :=
  BRow w base 5 u l ∨ ∃ g, u = .slice (some ⟨g, 0, none⟩) l.length l.length ∧ base ≤ g ∧ g < w.heap.size ∧ BAt w (some ⟨g, 0, none⟩) l.length l
theorem BGood.base_le {w : World} {base : Nat} {u : Value} {l : List UInt8} (h : BGood w base u l) {k : Nat} (hk : u.ownBlock = some k) : base ≤ k := by
  rcases h with h | ⟨g, rfl, hg, _⟩
  · exact (World.ownsRow.lt h k hk).1
  · cases hk; exact hg
theorem BGood.reads {w : World} {base : Nat} {u : Value} {l : List UInt8} (h : BGood w base u l) : ∃ A c, u = .slice A l.length c ∧ BAt w A c l := by
  rcases h with h | ⟨g, rfl, _, _, h⟩
  · exact h.at_
  · exact ⟨_, _, rfl, h⟩
theorem BGood.grow {w w' : World} {base : Nat} {u : Value} {l : List UInt8} (h : BGood w base u l) (k : Below w.heap.size w w') : BGood w' base u l := by
  rcases h with h | ⟨g, rfl, h1, h2, h3⟩
  · exact .inl (h.grow k)
  · exact .inr ⟨g, rfl, h1, Nat.lt_of_lt_of_le h2 k.size, h3.grow k⟩
/-- What Clip makes of a row. -/
theorem BRow.clip {w : World} {base : Nat} {A : Option Addr} {n c : Nat} {l : List UInt8} (h : BRow w base 5 (.slice A n c) l) : n = l.length ∧ BGood w base (.slice A n n) l := by
  obtain ⟨A', c', e, hb⟩ := h.at_
  cases e
  refine ⟨rfl, ?_⟩
  rcases h.2 with ⟨e, hn⟩ | ⟨g, cap, cur, e, h1, h2, h3, _⟩
  · obtain rfl : l = [] := List.eq_nil_of_length_eq_zero hn
    cases e
    exact .inl (BRow.nil _ _ _)
  · cases e
    exact .inr ⟨g, rfl, h1, (Array.getElem?_eq_some_iff.1 h2).1, Nat.le_refl _, hb.2⟩
theorem run_append_good (w : World) (tx ty : TypeId) (base : Nat) (v : Value) (l : List UInt8) (h : BGood w base v l) (x : Value) (m : Nat) (news : List Value) (hs : Src Try.prog 1 tx x m news w)
    (hm : 1 ≤ m) (hn : l.length + m ≤ 100000000000) (hbase : base ≤ w.heap.size) :
    ∃ v' w', (Builtin.append_ #[23, tx] ty #[v, x]).run Try.prog w = .ok v' w' ∧ w'.ownsRow base 5 1 v' (l.length + m) (cb l ++ news) ∧ Hop w w' v.ownBlock v'.ownBlock := by
  obtain ⟨i0, hi, hz0, hz1, hz2⟩ := info_parts infoByte
  rcases h with h | ⟨g, rfl, h1, h2, h3⟩
  · exact run_append_row w 23 tx ty 5 base i0 _ 1 1 Try.underlying23 hi hz0 hz1 hz2 rfl v _ _ h x m news hs (by unfold maxLen; omega) (by omega) hbase
  · have hlen : (cb l ++ news).length = (l.length + m) * 1 := by rw [List.length_append, cb_length, hs.newsLen]; omega
    have hold : (Builtin.firstCells i0.size l.length (.slice (some ⟨g, 0, none⟩) l.length l.length)).run Try.prog w.drew = .ok (cb l).toArray w.drew := by
      rw [hz1]
      refine run_firstCells_some (P := Try.prog) w.drew 1 l.length ⟨g, 0, none⟩ l.length l.length (cb l) (by rw [cb_length]; omega) fun j u hj => ?_
      obtain ⟨x, hx, rfl⟩ : ∃ x, l[j]? = some x ∧ u = .int .u8 (x.toNat : Int) := by
        simp only [cb, List.getElem?_map, Option.map_eq_some_iff] at hj
        obtain ⟨x, h1, h2⟩ := hj
        exact ⟨x, h1, h2.symm⟩
      obtain ⟨g', o', e, _, hc⟩ := h3.2 (by have := (List.getElem?_eq_some_iff.1 hx).1; omega)
      cases e
      rw [addr_addB]
      exact hc j x hx
    have hr := run_append_grow_src (P := Try.prog) w 23 tx ty 5 i0 _ Try.underlying23 hi hz0 (some ⟨g, 0, none⟩) l.length l.length (cb l) hold x m news (by rw [hz1]; exact hs) (by omega) (by omega) (growslice_fits (by omega) (by rw [hz2]; omega))
    refine ⟨_, _, hr, ⟨hlen, .inr ⟨w.heap.size, _, _, rfl, hbase, heap_alloc_new w.drew _, grownCap_ge w (l.length + m) l.length 5, grownCap_le_maxLen w (l.length + m) l.length 5 (by unfold maxLen; omega), ?_, ?_⟩⟩, ⟨rfl, rfl, rfl, by simp, fun k hk _ => heap_alloc_old w.drew _ hk⟩, .inr ⟨_, Nat.le_refl _, rfl⟩⟩
    · have := grownCap_ge w (l.length + m) l.length 5
      simp only [Array.size_append, List.size_toArray, size_zeroCells, hlen]
      rw [show (Value.int .u8 0).cells.size = 1 from rfl]
      omega
    · simp only [Array.toList_append]
      rw [← hlen]
      exact List.take_left
theorem wpList_appG {w : World} {ops : Array Oper} {rest : List Oper} {o : Oper} {a : Act} {Q : Exit → Act → World → Prop} (hgd : o.guard = none) (s x : Operand) (tx : TypeId)
    (ho : o.op = .call { callee := .builtin .append, args := #[s, x], argTypes := #[23, tx] })
    (base : Nat) (v : Value) (l m : List UInt8) (hv : a.eval s = v) (hown : BGood w base v l)
    (X : Value) (hX : a.eval x = X) (hs : Src Try.prog 1 tx X m.length (cb m) w) (hm : 1 ≤ m.length) (hn : l.length + m.length ≤ 100000000000) (hbase : base ≤ w.heap.size)
    (h : ∀ v' w', BRow w' base 5 v' (l ++ m) → Hop w w' v.ownBlock v'.ownBlock → wpList Try.prog ops Q rest (a.put o.dst v') w') : wpList Try.prog ops Q (o :: rest) a w :=
  wpList_plain hgd fun _ hK => by
    obtain ⟨v', w', hr, h2, h3⟩ := run_append_good w tx o.type base v l hown X m.length (cb m) hs hm hn hbase
    unfold Oper.wp execOp
    simp only [ho, resolve, invoke, builtin, Sem.run_bind, Sem.run_pure, Result.andThen_ok, List.map_toArray, List.map_cons, List.map_nil, hv, hX, hr]
    exact hK _ _ (h v' w' (BRow.app h2 rfl) h3)
end Go.Proofs.Ytbdkoagagcemcaa

/- Numbers of whole bytes, the highest first. No program. -/
namespace Go.Proofs.Ytbdkoagagcemcaa

def bigB : Nat → Nat → List UInt8
  | 0, _ => []
  | n + 1, v => UInt8.ofNat (v / 256 ^ n) :: bigB n v
def litB : Nat → Nat → List UInt8
  | 0, _ => []
  | n + 1, v => UInt8.ofNat v :: litB n (v / 256)
theorem bigB_len : ∀ n v, (bigB n v).length = n
  | 0, _ => rfl
  | n + 1, v => by simp only [bigB, List.length_cons, bigB_len n v]
theorem litB_len : ∀ n v, (litB n v).length = n
  | 0, _ => rfl
  | n + 1, v => by simp only [litB, List.length_cons, litB_len n]
theorem bigB_snoc : ∀ n v, bigB (n + 1) v = bigB n (v / 256) ++ [UInt8.ofNat v]
  | 0, v => by simp [bigB]
  | n + 1, v => by
    rw [bigB, bigB_snoc n v, bigB, List.cons_append, Nat.div_div_eq_div_mul, Nat.pow_succ, Nat.mul_comm]
theorem litB_rev : ∀ n v, (litB n v).reverse = bigB n v
  | 0, _ => rfl
  | n + 1, v => by rw [litB, List.reverse_cons, litB_rev n, bigB_snoc]
theorem litB_snoc : ∀ n v, litB (n + 1) v = litB n v ++ [UInt8.ofNat (v / 256 ^ n)]
  | 0, v => by simp [litB]
  | n + 1, v => by
    rw [litB, litB_snoc n (v / 256), litB, List.cons_append, Nat.div_div_eq_div_mul, Nat.pow_succ, Nat.mul_comm]
theorem u8_toNat (x : Nat) : (UInt8.ofNat x).toNat = x % 256 := UInt8.toNat_ofNat' ..
end Go.Proofs.Ytbdkoagagcemcaa

/- The walks of layer 2: a number's bytes, the highest first, behind others, by the program. -/
namespace Go.Proofs.Ytbdkoagagcemcaa
open Go.RowKit

theorem sized_any (n : Nat) (w : World) (hn : n = 1 ∨ n = 2 ∨ n = 4 ∨ n = 8) : Calls Try.prog 54 #[.int .i64 n] w fun e w' => e = .returned (.bool true) ∧ w' = w := by
  rcases hn with rfl | rfl | rfl | rfl <;>
  · go_enter Try.func54, Try.ntmps54
    go_wp2
    go_ret
    exact ⟨rfl, rfl⟩
theorem freshB {x : World} {B base : Nat} (h : x.heap[B]? = some (.cells #[] 5 (0, 0))) (hb : base ≤ B) : BRow x base 5 (.slice (some ⟨B, 0, none⟩) 0 0) [] :=
  ⟨rfl, .inr ⟨B, 0, #[], rfl, hb, h, Nat.le_refl _, by unfold maxLen; omega, rfl, rfl⟩⟩
theorem wpList_appBy {w : World} {ops : Array Oper} {rest : List Oper} {o : Oper} {a : Act} {Q : Exit → Act → World → Prop} (hgd : o.guard = none) (s x : Operand) (tx : TypeId)
    (ho : o.op = .call { callee := .builtin .append, args := #[s, x], argTypes := #[23, tx] })
    (base : Nat) (v : Value) (l m : List UInt8) (hv : a.eval s = v) (hown : BRow w base 5 v l)
    (X : Value) (hX : a.eval x = X) (hs : Src Try.prog 1 tx X m.length (cb m) w) (hn : l.length + m.length ≤ 100000000000) (hbase : base ≤ w.heap.size)
    (h : ∀ v' w', BRow w' base 5 v' (l ++ m) → Hop w w' v.ownBlock v'.ownBlock → wpList Try.prog ops Q rest (a.put o.dst v') w') : wpList Try.prog ops Q (o :: rest) a w := by
  obtain ⟨i0, hi, hz0, hz1, hz2⟩ := info_parts infoByte
  exact wpList_append_row hgd s x 23 tx ho base 5 i0 _ 1 1 Try.underlying23 hi hz0 hz1 hz2 rfl v _ _ hv hown X m.length (cb m) hX (fun v' w' h1 h2 => h v' w' (BRow.app h1 rfl) h2) hs (by unfold maxLen; omega) (by omega) hbase
set_option maxHeartbeats 1000000 in
set_option maxRecDepth 100000 in
theorem bclone_any (A : Option Addr) (c : Nat) (l : List UInt8) (w : World) (hx : BAt w A c l) (hn : l.length ≤ 1000000000) (hA : A = none → c = 0) :
    Calls Try.prog 30 #[.slice A l.length c] w fun e w' => ∃ u, e = .returned u ∧ BRow w' w.heap.size 5 u l ∧ Below w.heap.size w w' := by
  have HX := Lib.hid hx
  have qn : ∀ (w : World) (a : Option Addr) (n c : Nat), (binOp .eql 23 (.slice a n c) (.slice none 0 0)).run Try.prog w = .ok (.bool a.isNone) w := fun w a n c => Lib.run_eql_slice_nil w _ _ _ _ _ _ _ Try.underlying23
  clear hx
  cases A with
  | none =>
    obtain rfl : l = [] := by
      cases l with
      | nil => rfl
      | cons x l => obtain ⟨g, o, e, _⟩ := HX.out.2 (by simp); cases e
    obtain rfl := hA rfl
    clear hA HX
    go_enter Try.func30, Try.ntmps30
    go_wp2
    go_ret
    exact ⟨_, rfl, BRow.nil _ _ _, Below.refl _ _⟩
  | some a =>
    clear hA
    go_enter Try.func30, Try.ntmps30
    go_wp2_with (at_builtin; refine wpList_appBy rfl _ _ _ rfl w.heap.size (.slice (some ⟨_, 0, none⟩) 0 0) [] l rfl (freshB (heap_alloc_new _ _) (Nat.le_refl _)) _ rfl (HX.out.grow ((Below.refl _ _).alloc (Nat.le_refl _) _)).src (by simp; omega) (by simp) ?_; intro v1 w1 hr1 hp1)
    have hb1 := Lib.hid (show Below w.heap.size w w1 from Below.trans ((Below.refl _ _).alloc (Nat.le_refl _) _) (hp1.below (by simp) (fun k hk => by cases hk; simp)))
    have HR := Lib.hid hr1
    clear hr1 hp1
    go_ret
    exact ⟨_, rfl, HR.out, hb1.out⟩
theorem shr_byte (v j : Nat) : (v : Int) / 2 ^ (8 * j) % 256 = ((UInt8.ofNat (v / 256 ^ j)).toNat : Int) := by
  rw [u8_toNat, show (256 : Nat) ^ j = 2 ^ (8 * j) from by rw [Nat.pow_mul]]
  simp
theorem src_byte {w : World} {B : Nat} {x : Int} {t : TypeId} {fr : Nat × Nat} (hb : w.heap[B]? = some (.cells #[.int .u8 x] t fr)) (y : UInt8) (h : x = (y.toNat : Int)) :
    Src Try.prog 1 23 (.slice (some ⟨B, 0, none⟩) 1 1) [y].length (cb [y]) w := by
  subst h
  exact src_block Try.underlying23 1 1 1 B _ t fr hb rfl (fun u hu => by simp at hu; subst hu; rfl)
end Go.Proofs.Ytbdkoagagcemcaa

/- The walks of layer 24: a plain number's bytes, and a row's. -/
namespace Go.Proofs.Ytbdkoagagcemcaa
open Go.RowKit

theorem ok_h {c : Cod} (hc : c.ok) : 2 ≤ c.h ∧ c.h ≤ 256 := ⟨hc.2.2.1, hc.2.2.2.1⟩
theorem ok_b {c : Cod} (hc : c.ok) : 1 ≤ c.b ∧ c.b ≤ 5 := ⟨hc.1, hc.2.1⟩
theorem reachU_big {h : Nat} (hh : h ≤ 256) {k : Nat} (hk : k ≤ 4) : reachU h k ≤ 1099511627776 := Nat.le_trans (reachU_le h hh k) (Nat.pow_le_pow_right (by decide : 0 < 256) (by omega : k + 1 ≤ 5))
theorem Hop.of_below {w w1 : World} (k : Below w.heap.size w w1) (o : Option Nat) : Hop w w1 o o := (Hop.refl w o).grow k
theorem hop_base {w w1 : World} {base : Nat} {v v' : Value} {l : List UInt8} (h : BRow w base 5 v l) (k : Hop w w1 v.ownBlock v'.ownBlock) {B : Nat} (hB : B ≤ base) (hw : B ≤ w.heap.size) : Below B w w1 :=
  k.below hw (fun _ e => Nat.le_trans hB (World.ownsRow.lt h _ e).1)
theorem u8_of (x : Int) (n : Nat) (h : x = (n : Int)) : x % 256 = ((UInt8.ofNat n).toNat : Int) := by
  subst h
  rw [u8_toNat]
  omega
/-- A box of another type is as it was. -/
theorem box_hop {w w1 : World} {base : Nat} {v v' : Value} {l : List UInt8} (h : BRow w base 5 v l) (hp : Hop w w1 v.ownBlock v'.ownBlock) {g : Nat} {cs : Array Value} {t : TypeId} (hb : w.heap[g]? = some (.cells cs t (0, 0))) (ht : t ≠ 5) : w1.heap[g]? = some (.cells cs t (0, 0)) :=
  (hp.1.block g (Array.getElem?_eq_some_iff.1 hb).1 (own_ne h hb ht)).trans hb
set_option maxHeartbeats 2000000 in
set_option maxRecDepth 100000 in
theorem put_any (c : Cod) (hc : c.ok) (u : Nat) (hu : u < reachU c.h (c.b - 1)) (v : Value) (l : List UInt8) (base : Nat) (w : World) (hr : BRow w base 5 v l) (hl : l.length ≤ 100000000) (hbase : base ≤ w.heap.size) :
    Calls Try.prog 72 #[v, c.val, .int .i64 u] w fun ex y => ∃ v', ex = .returned v' ∧ BRow y base 5 v' (l ++ putU c.h (c.b - 1) u) ∧ Hop w y v.ownBlock v'.ownBlock := by
  have hh := ok_h hc
  have hb := ok_b hc
  have hub := reachU_big hh.2 (k := c.b - 1) (by omega)
  have HR := Lib.hid hr
  unfold Cod.val
  generalize c.b = B at *
  generalize c.h = H at *
  generalize c.s = S at *
  generalize c.d = D at *
  clear hc c hr
  go_enter Try.func72, Try.ntmps72
  go_wp2_with fail
  go_loopw [0, 2, 14] (fun x s t wr => ∃ (i U : Nat) (L : List UInt8), i ≤ B - 1 ∧ t = .int .i64 i ∧ s = .int .i64 U ∧ U < reachU H (B - 1 - i) ∧ U ≤ u ∧ L ++ putU H (B - 1 - i) U = l ++ putU H (B - 1) u ∧ L.length ≤ l.length + i ∧ BRow wr base 5 x L ∧ Hop w wr v.ownBlock x.ownBlock ∧ wr.heap[w.heap.size]? = some (.cells #[.int .i64 B, .int .i64 H, .int .i64 S, .int .i64 D] 38 (0, 0)) ∧ base ≤ wr.heap.size) (fun _ _ t _ => B - (intOf t).toNat)
  case atStart => exact ⟨0, u, l, Nat.zero_le _, rfl, rfl, hu, Nat.le_refl _, rfl, by omega, HR.out.grow ((Below.refl _ _).alloc (Nat.le_refl _) _), Hop.of_below ((Below.refl _ _).alloc (Nat.le_refl _) _) _, heap_alloc_new _ _, by simp; omega⟩
  case round =>
    obtain ⟨i, U, L, hi, rfl, rfl, hU, hUu, hL, hLl, hrow, hop, hbx, hbw⟩ := hrel
    obtain ⟨A, cc, rfl, _⟩ := hrow.at_
    have c0 := (blk_facts hbx).1 0
    have c1 := (blk_facts hbx).1 1
    have hz := (Array.getElem?_eq_some_iff.1 hbx).1
    have HX := Lib.hid hbx
    have HO := Lib.hid hrow
    have HP := Lib.hid hop
    have HL := Lib.hid hL
    have k1 := Lib.hid (fun (y : Obj) => (Below.refl wr.heap.size wr).alloc (Nat.le_refl _) y)
    have hUb : U ≤ 1099511627776 := by omega
    clear hbx hrow hop hL hub hu HR
    by_cases h1 : i < B - 1 ∧ 256 - H ≤ U
    · have p1 : decide ((i : Int) < (B : Int) - 1) = true := decide_eq_true (by omega)
      have p2 : decide ((U : Int) < 256 - (H : Int)) = false := decide_eq_false (by omega)
      obtain ⟨k, hk⟩ : ∃ k, B - 1 - i = k + 1 := ⟨B - 1 - i - 1, by omega⟩
      have e1 : 256 - (H : Int) + ((U : Int) - (256 - (H : Int))) % (H : Int) = ((256 - H + (U - (256 - H)) % H : Nat) : Int) := by
        rw [Int.natCast_add, Int.natCast_emod, Int.ofNat_sub hh.2, Int.ofNat_sub h1.2, Int.ofNat_sub hh.2]; rfl
      have e2 : ((U : Int) - (256 - (H : Int))) / (H : Int) = (((U - (256 - H)) / H : Nat) : Int) := by
        rw [Int.natCast_ediv, Int.ofNat_sub h1.2, Int.ofNat_sub hh.2]; rfl
      have hm : (U - (256 - H)) % H < H := Nat.mod_lt _ (by omega)
      have hd : (U - (256 - H)) / H < reachU H k := by
        rw [hk] at hU
        simp only [reachU] at hU
        rw [Nat.div_lt_iff_lt_mul (by omega), Nat.mul_comm]
        omega
      have hd2 : (U - (256 - H)) / H ≤ U := Nat.le_trans (Nat.div_le_self _ _) (by omega)
      have e3 := Lib.hid (show wrap64 (256 - (H : Int) + ((U : Int) - (256 - (H : Int))) % (H : Int)) % 256 = ((UInt8.ofNat (256 - H + (U - (256 - H)) % H)).toNat : Int) by
        rw [e1, show wrap64 ((256 - H + (U - (256 - H)) % H : Nat) : Int) = ((256 - H + (U - (256 - H)) % H : Nat) : Int) from by unfold wrap64; omega]
        exact u8_of _ _ rfl)
      have E1 := Lib.hid e1
      have E2 := Lib.hid e2
      clear e1 e2
      have HL2 := Lib.hid (show (L ++ [UInt8.ofNat (256 - H + (U - (256 - H)) % H)]) ++ putU H (B - 1 - (i + 1)) ((U - (256 - H)) / H) = l ++ putU H (B - 1) u by
        rw [← HL.out, List.append_assoc, hk, show B - 1 - (i + 1) = k from by omega]
        congr 1
        conv => rhs; unfold putU
        rw [if_neg (by omega)]; rfl)
      have HD := Lib.hid (show (U - (256 - H)) / H < reachU H (B - 1 - (i + 1)) by rw [show B - 1 - (i + 1) = k from by omega]; exact hd)
      generalize (U - (256 - H)) % H = r at *
      generalize (U - (256 - H)) / H = q at *
      have hp2 : ¬ ((U : Int) - (256 - (H : Int)) < 0) := by omega
      have hH0 : ((H : Int) == 0) = false := by simp; omega
      go_wp2_with (at_builtin; refine wpList_appBy rfl _ _ _ rfl base _ L [UInt8.ofNat (256 - H + r)] rfl (HO.out.grow (k1.out _)) _ rfl (src_byte (heap_alloc_new _ _) _ e3.out) (by simp; omega) (Nat.le_trans hbw (k1.out _).size) ?_; intro v3 w3 hr3 hp3; have hx3 := box_hop (HO.out.grow (k1.out _)) hp3 (((k1.out _).block _ hz).trans HX.out) (by decide); have d1 := (blk_facts hx3).1 1; have hz3 := (Array.getElem?_eq_some_iff.1 hx3).1; have HX3 := Lib.hid hx3; have HR3 := Lib.hid hr3; have HP3 := Lib.hid ((HP.out.grow (k1.out _)).trans hp3); have HS3 := Lib.hid (Nat.le_trans hbw (Nat.le_trans (k1.out _).size hp3.1.size)); clear hx3 hr3 hp3)
      go_roundw
      case rel => exact ⟨i + 1, q, _, by omega, by go_num, by rw [E2.out], HD.out, by omega, HL2.out, by simp; omega, HR3.out, HP3.out, HX3.out, HS3.out⟩
      case measure => simp [intOf]; omega
    · have hend : putU H (B - 1 - i) U = [UInt8.ofNat U] ∧ (decide ((i : Int) < (B : Int) - 1) = false ∨ (decide ((i : Int) < (B : Int) - 1) = true ∧ decide ((U : Int) < 256 - (H : Int)) = true)) := by
        by_cases h2 : i < B - 1
        · obtain ⟨k, hk⟩ : ∃ k, B - 1 - i = k + 1 := ⟨B - 1 - i - 1, by omega⟩
          refine ⟨?_, .inr ⟨decide_eq_true (by omega), decide_eq_true (by omega)⟩⟩
          rw [hk]; unfold putU; rw [if_pos (by omega)]
        · refine ⟨?_, .inl (decide_eq_false (by omega))⟩
          rw [show B - 1 - i = 0 from by omega]; rfl
      obtain ⟨he, hcase⟩ := hend
      have HL2 := Lib.hid (show L ++ [UInt8.ofNat U] = l ++ putU H (B - 1) u by rw [← HL.out, he])
      have e3 := Lib.hid (u8_of _ U rfl)
      clear he HL h1
      rcases hcase with p1 | ⟨p1, p2⟩
      all_goals
        go_wp2_with (at_builtin; refine wpList_appBy rfl _ _ _ rfl base _ L [UInt8.ofNat U] rfl (HO.out.grow (k1.out _)) _ rfl (src_byte (heap_alloc_new _ _) _ e3.out) (by simp; omega) (Nat.le_trans hbw (k1.out _).size) ?_; intro v3 w3 hr3 hp3; have HR3 := Lib.hid hr3; have HP3 := Lib.hid ((HP.out.grow (k1.out _)).trans hp3); clear hr3 hp3)
        go_ret
        exact ⟨_, rfl, HL2.out ▸ HR3.out, HP3.out⟩
end Go.Proofs.Ytbdkoagagcemcaa

/- The walk of layer 24: a row's bytes. -/
namespace Go.Proofs.Ytbdkoagagcemcaa
open Go.RowKit

theorem drop_atI {α : Type} {l : List α} {i : Nat} {x : α} (h : l[i]? = some x) : l.drop i = x :: l.drop (i + 1) := by
  obtain ⟨h3, rfl⟩ := List.getElem?_eq_some_iff.1 h
  exact List.drop_eq_getElem_cons h3
theorem putU_leB (h : Nat) : ∀ (k u : Nat), (putU h k u).length ≤ k + 1
  | 0, u => by simp [putU]
  | k + 1, u => by
    have := putU_leB h k ((u - (256 - h)) / h)
    unfold putU
    split
    · simp
    · simp only [List.length_cons]; omega
/-- A box with a coding. -/
def CBox (w : World) (g : Nat) (c : Cod) : Prop := w.heap[g]? = some (.cells #[.int .i64 c.b, .int .i64 c.h, .int .i64 c.s, .int .i64 c.d] 38 (0, 0))
theorem CBox.grow {w w1 : World} {g : Nat} {c : Cod} (h : CBox w g c) (k : Below w.heap.size w w1) : CBox w1 g c := (k.block g (Array.getElem?_eq_some_iff.1 h).1).trans h
theorem putU_le5 {c : Cod} (hc : c.ok) (u : Nat) : (putU c.h (c.b - 1) u).length ≤ 5 := by
  have := putU_leB c.h (c.b - 1) u
  have := ok_b hc
  omega
/-- What a row's writing comes to. -/
def RowRes (o : Option (List UInt8)) (w : World) (ex : Ending) (y : World) : Prop :=
  match o with
  | none => ex = .returned (.tuple #[.slice none 0 0, .int .i64 5]) ∧ Below w.heap.size w y
  | some b => ∃ u, ex = .returned (.tuple #[u, .int .i64 0]) ∧ BRow y w.heap.size 5 u b ∧ Below w.heap.size w y
theorem rowRes_none {o : Option (List UInt8)} (h : o = none) {w y : World} {ex : Ending} (he : ex = .returned (.tuple #[.slice none 0 0, .int .i64 5])) (hb : Below w.heap.size w y) : RowRes o w ex y := by subst h; exact ⟨he, hb⟩
theorem rowRes_some {o : Option (List UInt8)} {b : List UInt8} (h : o = some b) {w y : World} {ex : Ending} {u : Value} (he : ex = .returned (.tuple #[u, .int .i64 0])) (hr : BRow y w.heap.size 5 u b) (hb : Below w.heap.size w y) : RowRes o w ex y := by subst h; exact ⟨u, he, hr, hb⟩
theorem fits_small {c : Cod} {u : Int} (h : c.fits u = true) : 0 ≤ u ∧ u.toNat < reachU c.h (c.b - 1) := by
  unfold Cod.fits at h
  obtain ⟨h1, h2⟩ := of_decide_eq_true h
  unfold Cod.reach at h2
  omega
set_option maxHeartbeats 8000000 in
set_option maxRecDepth 100000 in
theorem row_any (c : Cod) (hc : c.ok) (A : Option Addr) (cc : Nat) (l : List Int) (w : World) (hx : Ints w A cc l) (hI : ∀ v ∈ l, I64 v) (hl : l.length ≤ 10000000) :
    Calls Try.prog 50 #[c.val, .slice A l.length cc] w (RowRes (c.row 0 l) w) := by
  have HX := Lib.hid hx
  have HI := Lib.hid hI
  have HRt := Lib.hid (fun w => right_any c hc w)
  have HBd := Lib.hid (fun v hv w => bound_any c hc v hv w)
  have HRd := Lib.hid (fun v hv w => round_any c hc v hv w)
  have HPl := Lib.hid (fun v hv w => plain_any c hc v hv w)
  have HFt := Lib.hid (fun u w => fits_any c hc u w)
  have HPt := Lib.hid (fun u hu v l base w hr hl hb => put_any c hc u hu v l base w hr hl hb)
  have HC := Lib.hid hc
  clear hx hI hc
  unfold Cod.val at *
  go_enter Try.func50, Try.ntmps50
  go_wp2_with fail
  refine (HRt.out _).mono ?_
  rintro ex y ⟨rfl, hb1⟩
  have hbx : CBox y w.heap.size c := (hb1.block w.heap.size (by simp)).trans (heap_alloc_new w _)
  have d0 := (blk_facts hbx).1 0
  have d1 := (blk_facts hbx).1 1
  have d2 := (blk_facts hbx).1 2
  have d3 := (blk_facts hbx).1 3
  have hz := (Array.getElem?_eq_some_iff.1 hbx).1
  have HB := Lib.hid (Below.after' ((Below.refl w.heap.size w).alloc (Nat.le_refl _) _) hb1 (by simp))
  have HBX := Lib.hid hbx
  clear hb1 hbx
  go_wp2_with fail
  go_loopw [6, 7, 16] (fun x s t wr => ∃ (i : Nat) (last : Int) (L : List UInt8), i ≤ l.length ∧ t = .int .i64 i ∧ s = .int .i64 last ∧ -2147483648 ≤ last ∧ last < 4294967296 ∧ preB L (c.row last (l.drop i)) = c.row 0 l ∧ L.length ≤ 5 * i ∧ BRow wr w.heap.size 5 x L ∧ Below w.heap.size w wr ∧ CBox wr w.heap.size c) (fun _ _ t _ => l.length - (intOf t).toNat)
  case atStart => exact ⟨0, 0, [], Nat.zero_le _, rfl, rfl, by omega, by omega, by rw [List.drop_zero, preB_nil], by simp, BRow.nil _ _ _, HB.out, HBX.out⟩
  case round =>
    obtain ⟨i, last, L, hi, rfl, rfl, hl1, hl2, hL, hLl, hrow, hB, hbx⟩ := hrel
    have HL := Lib.hid hL
    have HR := Lib.hid hrow
    have HW := Lib.hid hB
    have HBX := Lib.hid hbx
    clear hL hB d0 d1 d2 d3 HB hz
    by_cases h1 : i < l.length
    · obtain ⟨g, o, v, rfl, hg, hvi, hct⟩ := (HX.out.grow HW.out).at_ h1
      have hv := HI.out v (List.mem_of_getElem? hvi)
      have hdr := Lib.hid (drop_atI hvi)
      have d0 := (blk_facts hbx).1 0
      have d1 := (blk_facts hbx).1 1
      have d2 := (blk_facts hbx).1 2
      have d3 := (blk_facts hbx).1 3
      have hz := (Array.getElem?_eq_some_iff.1 hbx).1
      clear hvi hbx hrow
      have p1 : decide ((i : Int) < (l.length : Int)) = true := decide_eq_true (by omega)
      go_wp2_with fail
      refine (HBd.out v hv _).mono ?_
      rintro ex y1 ⟨rfl, hb1⟩
      have HR1 := Lib.hid (HR.out.grow hb1)
      have HW1 := Lib.hid (Below.after' HW.out hb1 (Nat.le_refl _))
      have hbx1 := HBX.out.grow hb1
      have HBX1 := Lib.hid hbx1
      clear d0 d1 d2 d3 hz HR HW HBX hb1
      have d0 := (blk_facts hbx1).1 0
      have d1 := (blk_facts hbx1).1 1
      have d2 := (blk_facts hbx1).1 2
      have d3 := (blk_facts hbx1).1 3
      have hz := (Array.getElem?_eq_some_iff.1 hbx1).1
      clear hbx1
      cases hbd : boundI c.s v with
      | false =>
        have hfin := Lib.hid (HL.out.symm.trans (by rw [hdr.out, Cod.row_out c last v _ (by rw [hbd]; simp)]; try rfl))
        go_wp2_with fail
        go_ret2
        exact rowRes_none hfin.out rfl HW1.out
      | true =>
        have hvb := boundI_in hbd
        have HBD := Lib.hid hbd
        clear hbd
        go_wp2_with fail
        refine (HPl.out v hv _).mono ?_
        rintro ex y2 ⟨rfl, hb2⟩
        have HR2 := Lib.hid (HR1.out.grow hb2)
        have HW2 := Lib.hid (Below.after' HW1.out hb2 (Nat.le_refl _))
        have hbx2 := HBX1.out.grow hb2
        have HBX2 := Lib.hid hbx2
        clear d0 d1 d2 d3 hz HR1 HW1 HBX1 hb2
        have d0 := (blk_facts hbx2).1 0
        have d1 := (blk_facts hbx2).1 1
        have d2 := (blk_facts hbx2).1 2
        have d3 := (blk_facts hbx2).1 3
        have hz := (Array.getElem?_eq_some_iff.1 hbx2).1
        clear hbx2
        have hin := plainP_in (show c.s ≤ 2 from HC.out.2.2.2.2.1) v
        by_cases hd : c.d = 1
        · have q : ((c.d : Int) == 1) = true := by simp; omega
          have hvl : I64 (v - last) := by unfold I64; omega
          have hri := roundI_in c.s (v - last)
          have hrI : I64 (roundI c.s (v - last)) := by unfold I64; omega
          have hdf := Lib.hid (show plainP c.s (c.diff last v) = plainP c.s (roundI c.s (v - last)) by unfold Cod.diff; rw [if_pos hd])
          have HS1 := Lib.hid (fun w => HRd.out (v - last) hvl w)
          have HS2 := Lib.hid (fun w => HPl.out (roundI c.s (v - last)) hrI w)
          clear hd
          go_wp2_with fail
          refine wp_region_grow (by kernel_rfl) (by kernel_rfl) ?_
          repeat (go_big_quiet_step ((first | (go_at_call 70; with_reducible exact Gr.call (HS1.out _)) | (go_at_call 69; with_reducible exact Gr.call (HS2.out _)))))
          refine wpQuiet_nil ?_
          intro g1
          obtain ⟨w1, hb1⟩ := g1
          have HXD := Lib.hid hdf.out
          clear hdf HS1 HS2 hri hrI hvl
          dsimp only
          generalize plainP c.s (roundI c.s (v - last)) = X at *
          have HR3 := Lib.hid (HR2.out.grow hb1)
          have HW3 := Lib.hid (Below.after' HW2.out hb1 (Nat.le_refl _))
          have hbx3 := HBX2.out.grow hb1
          have HBX3 := Lib.hid hbx3
          clear d0 d1 d2 d3 hz HR2 HW2 HBX2 hb1 q hin
          have d0 := (blk_facts hbx3).1 0
          have d1 := (blk_facts hbx3).1 1
          have d2 := (blk_facts hbx3).1 2
          have d3 := (blk_facts hbx3).1 3
          have hz := (Array.getElem?_eq_some_iff.1 hbx3).1
          clear hbx3
          have hfe := plainP_fits c HC.out.2.2.2.2.1 (c.diff last v)
          have hdb := boundI_in (c.diff_bound (last := last) HBD.out)
          have hpe := plainP_eq (s := c.s) (v := c.diff last v) (by omega) (by omega)
          have hxd := HXD.out
          rw [hpe] at hfe hxd
          have HFX := Lib.hid (show c.fits (plainI c.s (c.diff last v)) = c.fits X from by rw [hxd])
          have HXD2 := Lib.hid hxd
          clear hfe hpe hdb HXD hxd
          go_wp2_with fail
          refine (HFt.out X _).mono ?_
          rintro ex y4 ⟨rfl, hb4⟩
          have HR4 := Lib.hid (HR3.out.grow hb4)
          have HW4 := Lib.hid (Below.after' HW3.out hb4 (Nat.le_refl _))
          have hbx4 := HBX3.out.grow hb4
          have HBX4 := Lib.hid hbx4
          clear d0 d1 d2 d3 hz HR3 HW3 HBX3 hb4
          have d0 := (blk_facts hbx4).1 0
          have d1 := (blk_facts hbx4).1 1
          have d2 := (blk_facts hbx4).1 2
          have d3 := (blk_facts hbx4).1 3
          have hz := (Array.getElem?_eq_some_iff.1 hbx4).1
          clear hbx4
          cases hf : c.fits X with
          | false =>
            have hfin := Lib.hid (HL.out.symm.trans (by rw [hdr.out, Cod.row_out c last v _ (by rw [HFX.out, hf]; simp)]; try rfl))
            go_wp2_with fail
            go_ret2
            exact rowRes_none hfin.out rfl HW4.out
          | true =>
            obtain ⟨f0, f1⟩ := fits_small hf
            obtain ⟨n, rfl⟩ : ∃ n : Nat, X = (n : Int) := ⟨X.toNat, by omega⟩
            have hL2 := Lib.hid (show preB (L ++ putU c.h (c.b - 1) n) (c.row v (l.drop (i + 1))) = c.row 0 l by
              rw [← HL.out, hdr.out, Cod.row_ok c last v _ HBD.out (by rw [HFX.out, hf]), HXD2.out, preB_pre]; rfl)
            have hpl := putU_le5 HC.out n
            have HP := Lib.hid (HPt.out n (by simpa using f1) _ L w.heap.size y4 HR4.out (by omega) HW4.out.size)
            have HO := Lib.hid (show ∀ (v' : Value) (y5 : World), Hop y4 y5 _ v'.ownBlock → CBox y5 w.heap.size c ∧ Below w.heap.size w y5 from fun v' y5 hp => ⟨box_hop HR4.out hp HBX4.out (by decide), HW4.out.trans (hop_base HR4.out hp (Nat.le_refl _) HW4.out.size)⟩)
            clear hf f0 f1
            go_wp2_with fail
            refine HP.out.mono ?_
            rintro ex y5 ⟨v', rfl, hr5, hp5⟩
            obtain ⟨hbx5, hw5⟩ := HO.out v' y5 hp5
            have HR5 := Lib.hid hr5
            have HBX5 := Lib.hid hbx5
            have HW5 := Lib.hid hw5
            clear hr5 hp5 hbx5 hw5 HP HO d0 d1 d2 d3 hz
            go_wp2_with fail
            go_roundw
            case rel => exact ⟨i + 1, v, _, by omega, by go_num, rfl, by omega, by omega, hL2.out, by simp only [List.length_append]; omega, HR5.out, HW5.out, HBX5.out⟩
            case measure => simp [intOf]; omega
        · have q : ((c.d : Int) == 1) = false := by simp; omega
          have HXD := Lib.hid (show plainP c.s (c.diff last v) = plainP c.s v by unfold Cod.diff; rw [if_neg hd])
          clear hd
          dsimp only
          generalize plainP c.s v = X at *
          have HR3 := HR2
          have HW3 := HW2
          have HBX3 := HBX2
          clear HR2 HW2 HBX2 hin
          have hfe := plainP_fits c HC.out.2.2.2.2.1 (c.diff last v)
          have hdb := boundI_in (c.diff_bound (last := last) HBD.out)
          have hpe := plainP_eq (s := c.s) (v := c.diff last v) (by omega) (by omega)
          have hxd := HXD.out
          rw [hpe] at hfe hxd
          have HFX := Lib.hid (show c.fits (plainI c.s (c.diff last v)) = c.fits X from by rw [hxd])
          have HXD2 := Lib.hid hxd
          clear hfe hpe hdb HXD hxd
          go_wp2_with fail
          refine (HFt.out X _).mono ?_
          rintro ex y4 ⟨rfl, hb4⟩
          have HR4 := Lib.hid (HR3.out.grow hb4)
          have HW4 := Lib.hid (Below.after' HW3.out hb4 (Nat.le_refl _))
          have hbx4 := HBX3.out.grow hb4
          have HBX4 := Lib.hid hbx4
          clear d0 d1 d2 d3 hz HR3 HW3 HBX3 hb4
          have d0 := (blk_facts hbx4).1 0
          have d1 := (blk_facts hbx4).1 1
          have d2 := (blk_facts hbx4).1 2
          have d3 := (blk_facts hbx4).1 3
          have hz := (Array.getElem?_eq_some_iff.1 hbx4).1
          clear hbx4
          cases hf : c.fits X with
          | false =>
            have hfin := Lib.hid (HL.out.symm.trans (by rw [hdr.out, Cod.row_out c last v _ (by rw [HFX.out, hf]; simp)]; try rfl))
            go_wp2_with fail
            go_ret2
            exact rowRes_none hfin.out rfl HW4.out
          | true =>
            obtain ⟨f0, f1⟩ := fits_small hf
            obtain ⟨n, rfl⟩ : ∃ n : Nat, X = (n : Int) := ⟨X.toNat, by omega⟩
            have hL2 := Lib.hid (show preB (L ++ putU c.h (c.b - 1) n) (c.row v (l.drop (i + 1))) = c.row 0 l by
              rw [← HL.out, hdr.out, Cod.row_ok c last v _ HBD.out (by rw [HFX.out, hf]), HXD2.out, preB_pre]; rfl)
            have hpl := putU_le5 HC.out n
            have HP := Lib.hid (HPt.out n (by simpa using f1) _ L w.heap.size y4 HR4.out (by omega) HW4.out.size)
            have HO := Lib.hid (show ∀ (v' : Value) (y5 : World), Hop y4 y5 _ v'.ownBlock → CBox y5 w.heap.size c ∧ Below w.heap.size w y5 from fun v' y5 hp => ⟨box_hop HR4.out hp HBX4.out (by decide), HW4.out.trans (hop_base HR4.out hp (Nat.le_refl _) HW4.out.size)⟩)
            clear hf f0 f1
            go_wp2_with fail
            refine HP.out.mono ?_
            rintro ex y5 ⟨v', rfl, hr5, hp5⟩
            obtain ⟨hbx5, hw5⟩ := HO.out v' y5 hp5
            have HR5 := Lib.hid hr5
            have HBX5 := Lib.hid hbx5
            have HW5 := Lib.hid hw5
            clear hr5 hp5 hbx5 hw5 HP HO d0 d1 d2 d3 hz
            go_wp2_with fail
            go_roundw
            case rel => exact ⟨i + 1, v, _, by omega, by go_num, rfl, by omega, by omega, hL2.out, by simp only [List.length_append]; omega, HR5.out, HW5.out, HBX5.out⟩
            case measure => simp [intOf]; omega
    · have hii : i = l.length := by omega
      subst hii
      obtain ⟨B, k, rfl, hrd⟩ := hrow.at_
      have p1 : decide ((l.length : Int) < (l.length : Int)) = false := decide_eq_false (by omega)
      have hfin := Lib.hid (HL.out.symm.trans (show preB L (c.row last (l.drop l.length)) = some (L ++ []) by rw [List.drop_length]; rfl))
      clear hrd hrow hbx
      go_wp2_with fail
      go_ret2
      exact rowRes_some hfin.out rfl (by rw [List.append_nil]; exact HR.out) HW.out
end Go.Proofs.Ytbdkoagagcemcaa

/- Layer 2's cursor: a box with bytes that it reads, its place, and its error. -/
namespace Go.Proofs.Ytbdkoagagcemcaa
open Go.RowKit

/-- A cursor at place n of bytes l. -/
structure CurS (x : World) (b : Nat) (A : Option Addr) (c : Nat) (l : List UInt8) (n : Nat) (e : Int) : Prop where
  box : x.heap[b]? = some (.cells #[.slice A l.length c, .int .i64 n, .int .i64 e] 59 (0, 0))
  row : BAt x A c l
  le : n ≤ l.length
  small : l.length ≤ 1000000
  shape : (A = none ∧ c = 0) ∨ ∃ g, A = some ⟨g, 0, none⟩
/-- The first error stays. -/
def fe (e e' : Int) : Int := if e = 0 then e' else e
section
variable {x y z : World} {b : Nat} {A : Option Addr} {c : Nat} {l : List UInt8} {n : Nat} {e : Int}
theorem CurS.lt (h : CurS x b A c l n e) : b < x.heap.size := (Array.getElem?_eq_some_iff.1 h.box).1
theorem CurS.grow (h : CurS x b A c l n e) (k : Below x.heap.size x y) : CurS y b A c l n e := ⟨(k.block b h.lt).trans h.box, h.row.grow k, h.le, h.small, h.shape⟩
theorem BAt.kept {x y : World} {A : Option Addr} {c : Nat} {l : List UInt8} (h : BAt x A c l) {o : Option Nat} (k : x.grownBy y o) (hne : ∀ g o', A = some ⟨g, o', none⟩ → 0 < l.length → some g ≠ o) : BAt y A c l :=
  ⟨h.1, fun hp => by
    obtain ⟨g, o, e, hg, hc⟩ := h.2 hp
    exact ⟨g, o, e, Nat.lt_of_lt_of_le hg k.size, fun j u hu => (World.cell?_of_block (k.block g hg (hne g o e hp))).trans (hc j u hu)⟩⟩
/-- A block that came behind turns. -/
theorem CurS.hop {m : Nat} {e0 : Int} (h0 : CurS x b A c l m e0) (h : CurS y b A c l n e) {o : Option Nat} (k : y.grownBy z o) (ho : ∀ g, o = some g → x.heap.size ≤ g) : CurS z b A c l n e :=
  ⟨(k.block b h.lt (fun e => by have := ho b e.symm; have := h0.lt; omega)).trans h.box, h.row.kept k (fun g o' e hp e2 => by
    obtain ⟨g', o'', e', hg, _⟩ := h0.row.2 hp
    rw [e'] at e
    cases e
    have := ho g e2.symm
    omega), h.le, h.small, h.shape⟩
/-- The bytes' block is not the box. -/
theorem CurS.apart (h : CurS x b A c l n e) {g o : Nat} (hA : A = some ⟨g, o, none⟩) (hp : 0 < l.length) : g ≠ b := by
  intro eg
  subst eg
  obtain ⟨g', o', e', hg, hc⟩ := h.row.2 hp
  rw [hA] at e'
  cases e'
  have h1 := hc 0 _ (List.getElem?_eq_getElem hp)
  rw [(blk_facts h.box).1] at h1
  have hi : o + 0 < 3 := by
    have := (Array.getElem?_eq_some_iff.1 h1).1
    simpa using this
  obtain h2 | h2 | h2 : o + 0 = 0 ∨ o + 0 = 1 ∨ o + 0 = 2 := by omega
  all_goals
    rw [h2] at h1
    simp at h1
theorem CurS.cb (h : CurS x b A c l n e) : x.cell? ⟨b, 0, none⟩ = some (.slice A l.length c) := (blk_facts h.box).1 0
theorem CurS.ca (h : CurS x b A c l n e) : x.cell? ⟨b, 1, none⟩ = some (.int .i64 n) := (blk_facts h.box).1 1
theorem CurS.ce (h : CurS x b A c l n e) : x.cell? ⟨b, 2, none⟩ = some (.int .i64 e) := (blk_facts h.box).1 2
theorem CurS.frozen (h : CurS x b A c l n e) (t : Nat) : x.frozen? ⟨b, t, none⟩ = false := (blk_facts h.box).2 t
theorem CurS.turned (h : CurS x b A c l n e) (t : Nat) (v : Value) : x.grownBy (x.setCell ⟨b, t, none⟩ v) (some b) := by
  rw [setCell_eq_setRow x b t _ 59 (0, 0) v h.box]
  exact ⟨rfl, rfl, rfl, by simp, fun k _ hne => setRow_other x b k _ (fun hh => hne (by rw [hh]))⟩
theorem CurS.setErr (h : CurS x b A c l n e) (e' : Int) : CurS (x.setCell ⟨b, 2, none⟩ (.int .i64 e')) b A c l n e' :=
  ⟨by simp [World.setCell, Array.getElem?_modify, h.box], h.row.kept (h.turned 2 _) (fun g o hA hp e => h.apart hA hp (Option.some.inj e)), h.le, h.small, h.shape⟩
theorem CurS.setAt (h : CurS x b A c l n e) {m : Nat} (hm : m ≤ l.length) : CurS (x.setCell ⟨b, 1, none⟩ (.int .i64 m)) b A c l m e :=
  ⟨by simp [World.setCell, Array.getElem?_modify, h.box], h.row.kept (h.turned 1 _) (fun g o hA hp e => h.apart hA hp (Option.some.inj e)), hm, h.small, h.shape⟩
/-- The bytes from a place on. -/
theorem CurS.part (h : CurS x b A c l n e) {k : Nat} (hk : n + k ≤ l.length) (hp : 0 < k) : ∃ g o, A = some ⟨g, o, none⟩ ∧ g < x.heap.size ∧ BAt x (some ⟨g, o + n, none⟩) (c - n) ((l.drop n).take k) := by
  obtain ⟨g, o, e, hg, hc⟩ := h.row.2 (by omega)
  have := h.row.1
  refine ⟨g, o, e, hg, ?_, fun _ => ⟨g, o + n, rfl, hg, fun j u hu => ?_⟩⟩
  · rw [List.length_take, List.length_drop]; omega
  · rw [List.getElem?_take] at hu
    split at hu
    · rw [List.getElem?_drop] at hu
      have := hc _ u hu
      rw [← Nat.add_assoc] at this
      exact this
    · cases hu
theorem cerr_any (h : CurS x b A c l n e) : Calls Try.prog 14 #[.pointer (some ⟨b, 0, none⟩)] x fun ex y => ex = .returned (.int .i64 e) ∧ y = x := by
  have c1 := h.ce
  have hz := h.lt
  clear h
  go_enter Try.func14, Try.ntmps14
  go_wp2
  go_ret
  exact ⟨rfl, rfl⟩
theorem cat_any (h : CurS x b A c l n e) : Calls Try.prog 20 #[.pointer (some ⟨b, 0, none⟩)] x fun ex y => ex = .returned (.int .i64 n) ∧ y = x := by
  have c1 := h.ca
  have hz := h.lt
  clear h
  go_enter Try.func20, Try.ntmps20
  go_wp2
  go_ret
  exact ⟨rfl, rfl⟩
theorem cleft_any (h : CurS x b A c l n e) : Calls Try.prog 15 #[.pointer (some ⟨b, 0, none⟩)] x fun ex y => ex = .returned (.int .i64 ((l.length - n : Nat) : Int)) ∧ Below x.heap.size x y := by
  have c0 := h.cb
  have c1 := h.ca
  have hz := h.lt
  have hle := h.le
  have hs := h.small
  have hr := h.row.1
  have hb : ((l.length : Int) - (n : Int)) = ((l.length - n : Nat) : Int) := by omega
  clear h
  go_enter Try.func15, Try.ntmps15
  go_wp2
  go_region
  go_wp2
  go_ret
  exact ⟨by go_num, Below.refl _ _ |>.drew⟩
theorem cfail_any (e' : Int) (h : CurS x b A c l n e) : Calls Try.prog 31 #[.pointer (some ⟨b, 0, none⟩), .int .i64 e'] x fun ex y => ex = .returned (.tuple #[]) ∧ CurS y b A c l n (fe e e') ∧ x.grownBy y (some b) := by
  have H := Lib.hid h
  have c1 := h.ce
  have hz := h.lt
  have hf := h.frozen 2
  clear h
  unfold fe
  by_cases h0 : e = 0
  · rw [if_pos h0]
    subst h0
    go_enter Try.func31, Try.ntmps31
    go_wp2
    go_end0
    exact ⟨rfl, H.out.setErr e', H.out.turned 2 _⟩
  · rw [if_neg h0]
    have p0 : (e == 0) = false := by simpa using h0
    clear h0
    go_enter Try.func31, Try.ntmps31
    go_wp2
    go_end0
    exact ⟨rfl, H.out, World.grownBy.refl _ _⟩
end
end Go.Proofs.Ytbdkoagagcemcaa
