/-
  No cell of these rows narrows 'for every input' (looked for: loops, veiled, ifaces, maps, wideKeys, modest, calm, conditions, laid).
  DERIVED. THE GIVEN ROWS OF THIS SEAT. 3 by the template 'for every input the law returns true; each argument reads behind the call as it read before'; 0 by the template 'total and deterministic' (their statements: YtimheacdaafodaaTotals.lean).
  GIVEN WITH THE SEED: the statements are not yours to turn. If you find one false, say at which input.
  Laid BY PROGRAM, IN A SANDBOX (cutbox-rows.mjs): the forced cells as the released guide's own fill.sh prints them over the translation 157ad8f2247dfbd5… (all of the seat's roots in one cut). By AI agents, Wed Nov 11 2026. No macro, syntax, notation, axiom, sorry.
-/
import Derived.Test.YtimheacdaafodaaChecked
import GoSem.Claim
import GoSem.ClaimJoined
import GoSem.ClaimMapViews
import Derived.JoinedTies
import Derived.KernelRfl
namespace Go.Proofs.Ytimheacdaafodaa
/- THE CELL 'sum', in the pinned program and in every row, IS THE sha256 OF THE DUMP (.gsa) THAT YtimheacdaafodaaProg.lean LOADS. Nothing in Lean hashes anything: it is a label: what it is worth is what the hold of that sum in a sandbox is worth. -/
noncomputable def Try.pinned : Pinned := { name := "ytimheacdaafodaa", sum := "157ad8f2247dfbd52d14e0093f3153724b8714ba70a7af24a0767d7dbd61858c", checked := Try.checked }
namespace Rows
def none {H : Type} : Left H := { results := [], args := [] }

/-- 'packsaddlelaw19.PoolsortOrders': WHATEVER THE INPUT: true; the input reads as it did. -/
def poolsortOrdersSpec : ChangeSpec := { name := "poolsortOrders", fn := fun _ => fun
  | [d1, d2, d3] => { results := [.lit (.bool true)], args := [d1, d2, d3] }
  | _ => none }
def poolsortOrdersRow : OpenClaim := { program := "ytimheacdaafodaa", sum := "157ad8f2247dfbd52d14e0093f3153724b8714ba70a7af24a0767d7dbd61858c", func := "packsaddle/packsaddlelaw19.PoolsortOrders", spec := "poolsortOrders", unfollowed := true, recurses := true, plainKeys := false, apart := false }
def PoolsortOrdersSaid : Prop := poolsortOrdersRow.holds Try.pinned (OpenSpec.ofChange poolsortOrdersSpec)

/-- ITS FALSE NEIGHBOUR: 'it returns false'. Refute it at one input. -/
def poolsortOrdersWrong : ChangeSpec := { name := "poolsortOrders", fn := fun _ => fun
  | [d1, d2, d3] => { results := [.lit (.bool false)], args := [d1, d2, d3] }
  | _ => none }
def PoolsortOrdersWrongFalsely : Prop := poolsortOrdersRow.holds Try.pinned (OpenSpec.ofChange poolsortOrdersWrong)

/-- 'packsaddlelaw19.PoolsortHolds': WHATEVER THE INPUT: true; the input reads as it did. -/
def poolsortHoldsSpec : ChangeSpec := { name := "poolsortHolds", fn := fun _ => fun
  | [d1, d2] => { results := [.lit (.bool true)], args := [d1, d2] }
  | _ => none }
def poolsortHoldsRow : OpenClaim := { program := "ytimheacdaafodaa", sum := "157ad8f2247dfbd52d14e0093f3153724b8714ba70a7af24a0767d7dbd61858c", func := "packsaddle/packsaddlelaw19.PoolsortHolds", spec := "poolsortHolds", unfollowed := true, recurses := true, plainKeys := false, apart := false }
def PoolsortHoldsSaid : Prop := poolsortHoldsRow.holds Try.pinned (OpenSpec.ofChange poolsortHoldsSpec)

/-- ITS FALSE NEIGHBOUR: 'it returns false'. Refute it at one input. -/
def poolsortHoldsWrong : ChangeSpec := { name := "poolsortHolds", fn := fun _ => fun
  | [d1, d2] => { results := [.lit (.bool false)], args := [d1, d2] }
  | _ => none }
def PoolsortHoldsWrongFalsely : Prop := poolsortHoldsRow.holds Try.pinned (OpenSpec.ofChange poolsortHoldsWrong)

/-- 'packsaddlelaw19.PoolsortAny': WHATEVER THE INPUT: true; the input reads as it did. -/
def poolsortAnySpec : ChangeSpec := { name := "poolsortAny", fn := fun _ => fun
  | [d1, d2] => { results := [.lit (.bool true)], args := [d1, d2] }
  | _ => none }
def poolsortAnyRow : OpenClaim := { program := "ytimheacdaafodaa", sum := "157ad8f2247dfbd52d14e0093f3153724b8714ba70a7af24a0767d7dbd61858c", func := "packsaddle/packsaddlelaw19.PoolsortAny", spec := "poolsortAny", unfollowed := true, recurses := true, plainKeys := false, apart := false }
def PoolsortAnySaid : Prop := poolsortAnyRow.holds Try.pinned (OpenSpec.ofChange poolsortAnySpec)

/-- ITS FALSE NEIGHBOUR: 'it returns false'. Refute it at one input. -/
def poolsortAnyWrong : ChangeSpec := { name := "poolsortAny", fn := fun _ => fun
  | [d1, d2] => { results := [.lit (.bool false)], args := [d1, d2] }
  | _ => none }
def PoolsortAnyWrongFalsely : Prop := poolsortAnyRow.holds Try.pinned (OpenSpec.ofChange poolsortAnyWrong)

/- THE SECOND FORM. 'bulk': how many values and letters a reading holds, each counted each time it is reached (what is shared counts as often as it is met; a slice's spare places count too). A statement '..UptoSaid' is the law's where the arguments, and the package variables that the reading takes, are together of bulk at most 1048576: NARROWER than '..Said'. Prove '..Said' where nothing that the law and all that it calls make is longer than what came in: it says more and counts as full. Else prove '..UptoSaid'. A law counts once. -/
mutual
def uptoBulk {H : Type} : DataW H → Nat
  | .lit (.string bytes) => bytes.length + 1
  | .lit _ => 1
  | .nil => 1
  | .ptr d => uptoBulk d + 1
  | .slice elems spare => uptoBulkAll elems + uptoBulkAll spare + 1
  | .agg parts => uptoBulkAll parts + 1
  | .iface _ d => uptoBulk d + 1
  | .map entries => uptoBulkEntries entries + 1
  | .held _ => 1
def uptoBulkAll {H : Type} : List (DataW H) → Nat
  | [] => 0
  | d :: r => uptoBulk d + uptoBulkAll r
def uptoBulkEntries {H : Type} : List (Lit × DataW H) → Nat
  | [] => 0
  | x :: r => uptoBulkEntry x + uptoBulkEntries r
def uptoBulkEntry {H : Type} : Lit × DataW H → Nat
  | (.string bytes, d) => bytes.length + uptoBulk d + 1
  | (_, d) => uptoBulk d + 1
 end
def uptoSmall : (H : Type) → List (DataW H) → Bool := fun _ ds => decide (uptoBulkAll ds ≤ 1048576)
def OpenSpec.upto (s : _root_.Go.ChangeSpec) : _root_.Go.OpenSpec := { _root_.Go.OpenSpec.ofChange s with cond := some uptoSmall }

/-- 'packsaddlelaw19.PoolsortOrders', WHERE WHAT IT READS IS OF BULK AT MOST 1048576: true; the input reads as it did. -/
def poolsortOrdersUptoRow : OpenClaim := { program := "ytimheacdaafodaa", sum := "157ad8f2247dfbd52d14e0093f3153724b8714ba70a7af24a0767d7dbd61858c", func := "packsaddle/packsaddlelaw19.PoolsortOrders", spec := "poolsortOrders", unfollowed := true, recurses := true, plainKeys := false, apart := false, narrowed := true }
def PoolsortOrdersUptoSaid : Prop := poolsortOrdersUptoRow.holds Try.pinned (OpenSpec.upto poolsortOrdersSpec)

/-- 'packsaddlelaw19.PoolsortHolds', WHERE WHAT IT READS IS OF BULK AT MOST 1048576: true; the input reads as it did. -/
def poolsortHoldsUptoRow : OpenClaim := { program := "ytimheacdaafodaa", sum := "157ad8f2247dfbd52d14e0093f3153724b8714ba70a7af24a0767d7dbd61858c", func := "packsaddle/packsaddlelaw19.PoolsortHolds", spec := "poolsortHolds", unfollowed := true, recurses := true, plainKeys := false, apart := false, narrowed := true }
def PoolsortHoldsUptoSaid : Prop := poolsortHoldsUptoRow.holds Try.pinned (OpenSpec.upto poolsortHoldsSpec)

/-- 'packsaddlelaw19.PoolsortAny', WHERE WHAT IT READS IS OF BULK AT MOST 1048576: true; the input reads as it did. -/
def poolsortAnyUptoRow : OpenClaim := { program := "ytimheacdaafodaa", sum := "157ad8f2247dfbd52d14e0093f3153724b8714ba70a7af24a0767d7dbd61858c", func := "packsaddle/packsaddlelaw19.PoolsortAny", spec := "poolsortAny", unfollowed := true, recurses := true, plainKeys := false, apart := false, narrowed := true }
def PoolsortAnyUptoSaid : Prop := poolsortAnyUptoRow.holds Try.pinned (OpenSpec.upto poolsortAnySpec)

end Rows
end Go.Proofs.Ytimheacdaafodaa
