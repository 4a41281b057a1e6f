/- Rows of bytes that are read. -/
import Derived.Test.YtjbbhfloomejoaaAppend
import Derived.Test.YtjbbhfloomejoaaProg
import Derived.Lib.Hide
import Derived.Laws.OwnMore
namespace Go.Proofs.Ytjbbhfloomejoaa
open Go.RowKit

theorem addr_addB (g o j : Nat) : Addr.add ⟨g, o, none⟩ j = ⟨g, o + j, none⟩ := by unfold Addr.add; split <;> simp_all
def BAt (w : World) (A : Option Addr) (c : Nat) (l : List UInt8) : Prop :=
  l.length ≤ c ∧ (0 < l.length → ∃ g o, A = some ⟨g, o, none⟩ ∧ g < w.heap.size ∧ ∀ (j : Nat) x, l[j]? = some x → w.cell? ⟨g, o + j, none⟩ = some (.int .u8 (x.toNat : Int)))
theorem BAt.keep {w w' : World} {A : Option Addr} {c : Nat} {l : List UInt8} (h : BAt w A c l) {B : Nat} (k : Below B w w') (hB : ∀ g o, A = some ⟨g, o, none⟩ → 0 < l.length → g < B) : BAt w' A c l :=
  ⟨h.1, fun hp => by
    obtain ⟨g, o, e, hg, hc⟩ := h.2 hp
    exact ⟨g, o, e, Nat.lt_of_lt_of_le hg (k.size), fun j x hx => (k.cell (p := ⟨g, _, none⟩) (hB g o e hp)).trans (hc j x hx)⟩⟩
theorem BAt.grow {w w' : World} {A : Option Addr} {c : Nat} {l : List UInt8} (h : BAt w A c l) (k : Below w.heap.size w w') : BAt w' A c l :=
  ⟨h.1, fun hp => by
    obtain ⟨g, o, e, hg, hc⟩ := h.2 hp
    exact ⟨g, o, e, Nat.lt_of_lt_of_le hg k.size, fun j x hx => (k.cell (p := ⟨g, _, none⟩) hg).trans (hc j x hx)⟩⟩
theorem BAt.nil (w : World) (A : Option Addr) (c : Nat) : BAt w A c [] := ⟨Nat.zero_le _, fun h => by simp at h⟩
theorem BAt.at_ {w : World} {A : Option Addr} {c : Nat} {b : List UInt8} (h : BAt w A c b) {i : Nat} (hi : i < b.length) : ∃ g o x, A = some ⟨g, o, none⟩ ∧ g < w.heap.size ∧ b[i]? = some x ∧ w.cell? ⟨g, o + i, none⟩ = some (.int .u8 (x.toNat : Int)) := by
  obtain ⟨g, o, e, hg, hc⟩ := h.2 (by omega)
  exact ⟨g, o, _, e, hg, List.getElem?_eq_getElem hi, hc i _ (List.getElem?_eq_getElem hi)⟩
theorem BAt.take {w : World} {A : Option Addr} {c : Nat} {b : List UInt8} (h : BAt w A c b) (k : Nat) : BAt w A c (b.take k) := by
  refine ⟨Nat.le_trans (by rw [List.length_take]; omega) h.1, fun hp => ?_⟩
  rw [List.length_take] at hp
  obtain ⟨g, o, e, hg, hc⟩ := h.2 (by omega)
  refine ⟨g, o, e, hg, fun j p hj => hc j p ?_⟩
  rw [List.getElem?_take] at hj
  split at hj
  · exact hj
  · cases hj
theorem BAt.text {w : World} {A : Option Addr} {c : Nat} {l : List UInt8} (h : BAt w A c l) : (convert 23 9 (.slice A l.length c)).run Try.prog w = .ok (.string (bs l)) w := by
  by_cases h0 : l.length = 0
  · obtain rfl := List.eq_nil_of_length_eq_zero h0
    cases A with
    | none =>
      rw [run_convert_bytes_string w 23 9 5 none ([] : List UInt8).length c Try.underlying23 Try.underlying5 Try.underlying9]
      rfl
    | some a => exact run_convert_bytes_back (P := Try.prog) w 23 9 5 a c [] Try.underlying23 Try.underlying5 Try.underlying9 (fun j hj => by simp at hj)
  · obtain ⟨g, o, rfl, hg, hc⟩ := h.2 (by omega)
    exact run_convert_bytes_back (P := Try.prog) w 23 9 5 ⟨g, o, none⟩ c l Try.underlying23 Try.underlying5 Try.underlying9 (fun j hj => by
      rw [addr_addB]; exact hc j _ (List.getElem?_eq_getElem hj))
theorem infoByte : (Try.prog.info? 5).map (fun i => (i.zero, i.size, i.bytes)) = some (some (.int .u8 0), 1, 1) := by kernel_rfl
theorem BRow.at_ {w : World} {base : Nat} {v : Value} {l : List UInt8} (h : BRow w base 5 v l) : ∃ A c, v = .slice A l.length c ∧ BAt w A c l := by
  have hc := fun (g : Nat) (hg : v.ownBlock = some g) => World.ownsRow.cells h hg
  rcases h.2 with ⟨rfl, hn⟩ | ⟨g, cap, cur, rfl, h1, h2, h3, _⟩
  · obtain rfl : l = [] := List.eq_nil_of_length_eq_zero hn
    exact ⟨none, 0, rfl, BAt.nil _ _ _⟩
  · refine ⟨_, cap, rfl, h3, fun _ => ⟨g, 0, rfl, (Array.getElem?_eq_some_iff.1 h2).1, fun j x hx => ?_⟩⟩
    have := hc g rfl j (.int .u8 (x.toNat : Int)) (by simp [cb, hx])
    rw [addr_addB] at this
    exact this
/-- Bytes that are read, as a source. -/
theorem BAt.src {w : World} {A : Option Addr} {c : Nat} {l : List UInt8} (h : BAt w A c l) : Src Try.prog 1 23 (.slice A l.length c) l.length (cb l) w := by
  by_cases h0 : l.length = 0
  · obtain rfl := List.eq_nil_of_length_eq_zero h0
    cases A with
    | none => exact Src.ofNil w Try.underlying23 c
    | some a => exact Src.ofSlice w Try.underlying23 a 0 c [] rfl (fun j u hu => by simp at hu) (fun u hu => by cases hu)
  · obtain ⟨g, o, rfl, hg, hc⟩ := h.2 (by omega)
    refine Src.ofSlice w Try.underlying23 ⟨g, o, none⟩ _ c (cb l) (by simp [cb]) (fun j u hu => ?_) (fun u hu => ?_)
    · rw [addr_addB]
      have : ∃ x, l[j]? = some x ∧ u = .int .u8 (x.toNat : Int) := by
        simp only [cb, List.getElem?_map, Option.map_eq_some_iff] at hu
        obtain ⟨x, h1, h2⟩ := hu
        exact ⟨x, h1, h2.symm⟩
      obtain ⟨x, hx, rfl⟩ := this
      exact hc j x hx
    · simp only [cb, List.mem_map] at hu
      obtain ⟨x, _, rfl⟩ := hu
      rfl
end Go.Proofs.Ytjbbhfloomejoaa
