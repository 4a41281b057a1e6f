/- Strings as lists of bytes; conversions. No program. -/
import Derived.Test.YtjbbhfloomejoaaGrow
import Derived.Laws.IdiomStrings
namespace Go.Proofs.Ytjbbhfloomejoaa
open Go.RowKit

/-- The string of these bytes. -/
def bs (l : List UInt8) : ByteArray := ⟨l.toArray⟩
theorem bs_append (x y : List UInt8) : bs x ++ bs y = bs (x ++ y) := ByteArray.mk_append_mk x y
theorem bs_toList (l : List UInt8) : (bs l).data.toList = l := rfl
theorem bs_list (l : List UInt8) : (bs l).toList = l := by rw [ByteArray.toList_eq]; rfl
theorem bs_beq (x y : List UInt8) : ((bs x).toList == (bs y).toList) = decide (x = y) := by rw [bs_list, bs_list]; by_cases h : x = y <;> simp [h]
theorem bs_of (s : ByteArray) : bs s.data.toList = s := rfl
theorem bs_size (l : List UInt8) : (bs l).size = l.length := by unfold bs ByteArray.size; simp
theorem size_toList (s : ByteArray) : s.data.toList.length = s.size := Array.length_toList
theorem bs_inj {x y : List UInt8} (h : bs x = bs y) : x = y := congrArg (fun s : ByteArray => s.data.toList) h
theorem bs_eq_iff {x y : List UInt8} : bs x = bs y ↔ x = y := ⟨bs_inj, fun h => by rw [h]⟩
theorem toNat_ofNat {n : Nat} (h : n < 256) : (UInt8.ofNat n).toNat = n := by simp; omega
theorem bs_get (l : List UInt8) (i : Nat) (h : i < (bs l).size) : (bs l)[i] = l[i]'(by rwa [bs_size] at h) := by rfl
theorem bs_extract (l : List UInt8) (a b : Nat) : (bs l).extract a b = bs ((l.drop a).take (b - a)) := by
  have h : ((bs l).extract a b).data = (bs l).data.extract a b := ByteArray.data_extract ..
  have e : (bs l).extract a b = ⟨(bs l).data.extract a b⟩ := by rw [← h]
  rw [e]
  unfold bs
  congr 1
  apply Array.ext'
  simp [List.take_drop]

/-- 'string(b)' of a row of the call's own: bytes. -/
theorem run_string_of_row {P : Program} (w : World) (src dst e : TypeId) (base : Nat) (v : Value) (l : List UInt8) (hs : P.underlying src = some (.slice e)) (he : P.underlying e = some (.int .u8)) (hd : P.underlying dst = some .string)
    (h : w.ownsRow base e 1 v l.length (l.map fun b => Value.int .u8 (b.toNat : Int))) : (convert src dst v).run P w = .ok (.string (bs l)) w := by
  have hc := fun (g : Nat) (hg : v.ownBlock = some g) => h.cells hg
  rcases h.2 with ⟨rfl, hn⟩ | ⟨g, cap, cur, rfl, _, _, _⟩
  · have : l = [] := List.eq_nil_of_length_eq_zero hn
    subst this
    exact run_convert_bytes_nil w src e hs he 0 0 dst hd
  · refine run_convert_bytes_back w src dst e _ cap l hs he hd fun j hj => ?_
    exact hc g rfl j _ (by simp [hj])
end Go.Proofs.Ytjbbhfloomejoaa
