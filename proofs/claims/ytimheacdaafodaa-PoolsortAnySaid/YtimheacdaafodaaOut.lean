/- Layer 16, plain: the bytes of constants. No program. -/
import Derived.Test.YtimheacdaafodaaBigPlain
import Derived.Test.YtimheacdaafodaaRCheck
namespace Go.Proofs.Ytimheacdaafodaa

def Rw.fit (r : Rw) : Prop := r.text.length ≤ 10000 ∧ r.bits < 18446744073709551616 ∧ r.a < 9223372036854775808 ∧ r.b < 9223372036854775808
def Rw.out (r : Rw) : List UInt8 :=
  if Pv.form r.tag = 0 then [] else
  UInt8.ofNat r.tag.toNat :: (
    if r.tag = 1 then bigB 2 r.text.length ++ r.text
    else if r.tag = 3 ∨ r.tag = 4 then bigB 4 r.bits
    else if r.tag = 5 ∨ r.tag = 6 then bigB 8 r.bits
    else if r.tag = 7 ∨ r.tag = 8 then bigB 2 r.a
    else bigB 2 r.a ++ bigB 2 r.b)
theorem Rw.out_len (r : Rw) (h : r.fit) : r.out.length ≤ 10010 := by
  have h1 := h.1
  unfold Rw.out
  repeat' split
  all_goals simp [bigB_len]
  all_goals omega
def Rw.bytes (L : List Rw) : List UInt8 := bigB 2 L.length ++ (L.drop 1).flatMap Rw.out
def Rw.bytesTo (L : List Rw) (i : Nat) : List UInt8 := bigB 2 L.length ++ ((L.take i).drop 1).flatMap Rw.out
theorem Rw.bytesTo_zero (L : List Rw) : Rw.bytesTo L 0 = bigB 2 L.length := by simp [Rw.bytesTo]
theorem Rw.bytesTo_one (L : List Rw) : Rw.bytesTo L 1 = bigB 2 L.length := by
  unfold Rw.bytesTo
  rw [List.drop_eq_nil_of_le (by rw [List.length_take]; omega)]
  simp
theorem Rw.bytesTo_all (L : List Rw) : Rw.bytesTo L L.length = Rw.bytes L := by simp [Rw.bytesTo, Rw.bytes]
theorem Rw.bytesTo_next {L : List Rw} {i : Nat} {r : Rw} (h : L[i]? = some r) (hi : 1 ≤ i) : Rw.bytesTo L (i + 1) = Rw.bytesTo L i ++ r.out := by
  obtain ⟨h1, rfl⟩ := List.getElem?_eq_some_iff.1 h
  unfold Rw.bytesTo
  rw [List.take_succ_eq_append_getElem h1, List.drop_append_of_le_length (by rw [List.length_take]; omega), List.flatMap_append, List.append_assoc]
  simp
theorem flat_len : ∀ (l : List Rw), (∀ r ∈ l, r.fit) → (l.flatMap Rw.out).length ≤ l.length * 10010
  | [], _ => by simp
  | r :: l, h => by
    have h1 := Rw.out_len r (h r (List.mem_cons_self ..))
    have h2 := flat_len l fun x hx => h x (List.mem_cons_of_mem _ hx)
    rw [List.flatMap_cons, List.length_append, List.length_cons]
    omega
theorem Rw.bytesTo_len (L : List Rw) (hL : L.length ≤ 10000) (h : ∀ r ∈ L, r.fit) (i : Nat) : (Rw.bytesTo L i).length ≤ 100200000 := by
  unfold Rw.bytesTo
  have h1 := flat_len ((L.take i).drop 1) fun r hr => h r (List.mem_of_mem_take (List.mem_of_mem_drop hr))
  rw [List.length_append, bigB_len]
  have : ((L.take i).drop 1).length ≤ 10000 := by rw [List.length_drop, List.length_take]; omega
  omega
end Go.Proofs.Ytimheacdaafodaa
