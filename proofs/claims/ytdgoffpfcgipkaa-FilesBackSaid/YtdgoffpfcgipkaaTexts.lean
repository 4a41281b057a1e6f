/- Rows of texts: of the call's own, and read. -/
import Derived.Test.YtdgoffpfcgipkaaStrs
import Derived.Test.YtdgoffpfcgipkaaProg
import Derived.Lib.Hide
import Derived.Laws.OwnMore
import Derived.Laws.AppendOwn
namespace Go.Proofs.Ytdgoffpfcgipkaa
open Go.RowKit

theorem infoStr : (Try.prog.info? 9).map (fun i => (i.zero, i.size, i.bytes)) = some (some (.string ⟨#[]⟩), 1, 16) := by kernel_rfl
/-- A row of texts of the call's own. -/
def TRow (w : World) (base : Nat) (v : Value) (xs : List (List UInt8)) : Prop := SRow w base 9 v xs
theorem TRow.grow {w w1 : World} {base : Nat} {v : Value} {xs : List (List UInt8)} (h : TRow w base v xs) (k : Below w.heap.size w w1) : TRow w1 base v xs := SRow.grow h k
theorem TRow.nil (w : World) (base : Nat) : TRow w base (.slice none 0 0) [] := SRow.nil w base 9
theorem TRow.one (w : World) (base : Nat) (h : base ≤ w.heap.size) (x : List UInt8) : TRow (w.alloc (.cells #[.string (bs x)] 9)) base (.slice (some ⟨w.heap.size, 0, none⟩) 1 1) [x] := by
  have := World.ownsRow_lit (base := base) (e := 9) (size := 1) w #[.string (bs x)] 1 h (by unfold maxLen; omega) rfl
  exact this
theorem wpList_appS {w : World} {ops : Array Oper} {rest : List Oper} {o : Oper} {a : Act} {Q : Exit → Act → World → Prop} (hgd : o.guard = none) (s x : Operand)
    (ho : o.op = .call { callee := .builtin .append, args := #[s, x], argTypes := #[25, 25] })
    (base : Nat) (v : Value) (xs : List (List UInt8)) (hv : a.eval s = v) (hown : TRow w base v xs) (B : Nat) (n : List UInt8) (t : TypeId) (fr : Nat × Nat) (hX : a.eval x = .slice (some ⟨B, 0, none⟩) 1 1)
    (hb : w.heap[B]? = some (.cells #[.string (bs n)] t fr)) (hn : xs.length ≤ 1000000000000) (hbase : base ≤ w.heap.size)
    (h : ∀ v' w', TRow w' base v' (xs ++ [n]) → Hop w w' v.ownBlock v'.ownBlock → wpList Try.prog ops Q rest (a.put o.dst v') w') : wpList Try.prog ops Q (o :: rest) a w := by
  obtain ⟨i0, hi, hz0, hz1, hz2⟩ := info_parts infoStr
  refine wpList_append_row hgd s x 25 25 ho base 9 i0 (.string ⟨#[]⟩) 1 16 Try.underlying25 hi hz0 hz1 hz2 rfl v _ _ hv hown _ 1 [.string (bs n)] hX (fun v' w' h1 h2 => h v' w' (SRow.app (ys := [n]) h1 rfl) h2) ?_ ?_ ?_ hbase
  · exact src_block Try.underlying25 1 1 1 _ #[.string (bs n)] _ _ hb rfl (by simp [Value.oneCell'])
  · unfold maxLen; omega
  · omega
/-- A row of texts that is read. -/
def Txt (w : World) (A : Option Addr) (c : Nat) (xs : List (List UInt8)) : Prop :=
  xs.length ≤ c ∧ (0 < xs.length → ∃ g o, A = some ⟨g, o, none⟩ ∧ g < w.heap.size ∧ ∀ (j : Nat) x, xs[j]? = some x → w.cell? ⟨g, o + j, none⟩ = some (.string (bs x)))
theorem Txt.grow {w w' : World} {A : Option Addr} {c : Nat} {xs : List (List UInt8)} (h : Txt w A c xs) (k : Below w.heap.size w w') : Txt w' A c xs :=
  ⟨h.1, fun hp => by
    obtain ⟨g, o, e, hg, hc⟩ := h.2 hp
    exact ⟨g, o, e, Nat.lt_of_lt_of_le hg k.size, fun j x hx => (k.cell (p := ⟨g, _, none⟩) hg).trans (hc j x hx)⟩⟩
theorem Txt.nil (w : World) (A : Option Addr) (c : Nat) : Txt w A c [] := ⟨Nat.zero_le _, fun h => by simp at h⟩
theorem Txt.at_ {w : World} {A : Option Addr} {c : Nat} {xs : List (List UInt8)} (h : Txt w A c xs) {i : Nat} (hi : i < xs.length) : ∃ g o x, A = some ⟨g, o, none⟩ ∧ g < w.heap.size ∧ xs[i]? = some x ∧ w.cell? ⟨g, o + i, none⟩ = some (.string (bs x)) := by
  obtain ⟨g, o, e, hg, hc⟩ := h.2 (by omega)
  exact ⟨g, o, _, e, hg, List.getElem?_eq_getElem hi, hc i _ (List.getElem?_eq_getElem hi)⟩
theorem TRow.reads {w : World} {base : Nat} {v : Value} {xs : List (List UInt8)} (h : TRow w base v xs) : ∃ A c, v = .slice A xs.length c ∧ Txt w A c xs := by
  rcases SRow.cases h with ⟨rfl, rfl⟩ | ⟨g, cap, rfl, _, hg, hc, hx⟩
  · exact ⟨none, 0, rfl, Txt.nil _ _ _⟩
  · exact ⟨_, cap, rfl, hc, fun _ => ⟨g, 0, rfl, hg, fun j x hj => by rw [Nat.zero_add]; exact hx j x hj⟩⟩
theorem TRow.kept {w w1 : World} {base : Nat} {v : Value} {xs : List (List UInt8)} {row : Option Nat} (h : TRow w base v xs) (g : w.grownBy w1 row) (hne : ∀ k, v.ownBlock = some k → row ≠ some k) : TRow w1 base v xs :=
  World.ownsRow.kept h g (by
    cases e : v.ownBlock with
    | none => exact .inl rfl
    | some k => exact .inr (fun e2 => hne k e e2.symm))
theorem TRow.cells {w : World} {base : Nat} {v : Value} {xs : List (List UInt8)} (h : TRow w base v xs) {g : Nat} (hg : v.ownBlock = some g) : base ≤ g ∧ ∃ cur, w.heap[g]? = some (.cells cur 9 (0, 0)) := by
  rcases h.2 with ⟨h, _⟩ | ⟨g', cap, cur, h, h1, hg', _⟩
  · rw [h] at hg; simp [Value.ownBlock] at hg
  · rw [h] at hg
    simp [Value.ownBlock] at hg
    subst hg
    exact ⟨h1, cur, hg'⟩
end Go.Proofs.Ytdgoffpfcgipkaa
