/-
  No cell of these rows narrows 'for every input' (looked for: loops, veiled, ifaces, maps, wideKeys, modest, calm, conditions, laid).
  DERIVED. THE GIVEN ROWS OF THIS SEAT. 3 by the template 'for every input the law returns true; each argument reads behind the call as it read before'; 0 by the template 'total and deterministic' (their statements: YteegpbdkalpeiaaTotals.lean).
  GIVEN WITH THE SEED: the statements are not yours to turn. If you find one false, say at which input.
  Laid BY PROGRAM, IN A SANDBOX (cutbox-rows.mjs): the forced cells as the released guide's own fill.sh prints them over the translation fd2890b8be3d02c0… (all of the seat's roots in one cut). By AI agents, Wed Nov 11 2026. No macro, syntax, notation, axiom, sorry.
-/
import Derived.Test.YteegpbdkalpeiaaChecked
import GoSem.Claim
import GoSem.ClaimJoined
import GoSem.ClaimMapViews
import Derived.JoinedTies
import Derived.KernelRfl
namespace Go.Proofs.Yteegpbdkalpeiaa
/- THE CELL 'sum', in the pinned program and in every row, IS THE sha256 OF THE DUMP (.gsa) THAT YteegpbdkalpeiaaProg.lean LOADS. Nothing in Lean hashes anything: it is a label: what it is worth is what the hold of that sum in a sandbox is worth. -/
noncomputable def Try.pinned : Pinned := { name := "yteegpbdkalpeiaa", sum := "fd2890b8be3d02c068c161a5d7df139f87727e51c381d437cde89f8871ca879e", checked := Try.checked }
namespace Rows
def none {H : Type} : Left H := { results := [], args := [] }

/-- 'packsaddlelaw25.PopularSplits': WHATEVER THE INPUT: true; the input reads as it did. -/
def popularSplitsSpec : ChangeSpec := { name := "popularSplits", fn := fun _ => fun
  | [d1, d2, d3] => { results := [.lit (.bool true)], args := [d1, d2, d3] }
  | _ => none }
def popularSplitsRow : OpenClaim := { program := "yteegpbdkalpeiaa", sum := "fd2890b8be3d02c068c161a5d7df139f87727e51c381d437cde89f8871ca879e", func := "packsaddle/packsaddlelaw25.PopularSplits", spec := "popularSplits", unfollowed := true, recurses := true, apart := false }
def PopularSplitsSaid : Prop := popularSplitsRow.holds Try.pinned (OpenSpec.ofChange popularSplitsSpec)

/-- ITS FALSE NEIGHBOUR: 'it returns false'. Refute it at one input. -/
def popularSplitsWrong : ChangeSpec := { name := "popularSplits", fn := fun _ => fun
  | [d1, d2, d3] => { results := [.lit (.bool false)], args := [d1, d2, d3] }
  | _ => none }
def PopularSplitsWrongFalsely : Prop := popularSplitsRow.holds Try.pinned (OpenSpec.ofChange popularSplitsWrong)

/-- 'packsaddlelaw25.PopularJoins': WHATEVER THE INPUT: true; the input reads as it did. -/
def popularJoinsSpec : ChangeSpec := { name := "popularJoins", fn := fun _ => fun
  | [d1, d2, d3] => { results := [.lit (.bool true)], args := [d1, d2, d3] }
  | _ => none }
def popularJoinsRow : OpenClaim := { program := "yteegpbdkalpeiaa", sum := "fd2890b8be3d02c068c161a5d7df139f87727e51c381d437cde89f8871ca879e", func := "packsaddle/packsaddlelaw25.PopularJoins", spec := "popularJoins", unfollowed := true, recurses := true, apart := false }
def PopularJoinsSaid : Prop := popularJoinsRow.holds Try.pinned (OpenSpec.ofChange popularJoinsSpec)

/-- ITS FALSE NEIGHBOUR: 'it returns false'. Refute it at one input. -/
def popularJoinsWrong : ChangeSpec := { name := "popularJoins", fn := fun _ => fun
  | [d1, d2, d3] => { results := [.lit (.bool false)], args := [d1, d2, d3] }
  | _ => none }
def PopularJoinsWrongFalsely : Prop := popularJoinsRow.holds Try.pinned (OpenSpec.ofChange popularJoinsWrong)

/-- 'packsaddlelaw25.PopularBack': WHATEVER THE INPUT: true; the input reads as it did. -/
def popularBackSpec : ChangeSpec := { name := "popularBack", fn := fun _ => fun
  | [d1, d2] => { results := [.lit (.bool true)], args := [d1, d2] }
  | _ => none }
def popularBackRow : OpenClaim := { program := "yteegpbdkalpeiaa", sum := "fd2890b8be3d02c068c161a5d7df139f87727e51c381d437cde89f8871ca879e", func := "packsaddle/packsaddlelaw25.PopularBack", spec := "popularBack", unfollowed := true, recurses := true, apart := false }
def PopularBackSaid : Prop := popularBackRow.holds Try.pinned (OpenSpec.ofChange popularBackSpec)

/-- ITS FALSE NEIGHBOUR: 'it returns false'. Refute it at one input. -/
def popularBackWrong : ChangeSpec := { name := "popularBack", fn := fun _ => fun
  | [d1, d2] => { results := [.lit (.bool false)], args := [d1, d2] }
  | _ => none }
def PopularBackWrongFalsely : Prop := popularBackRow.holds Try.pinned (OpenSpec.ofChange popularBackWrong)

/- THE SECOND FORM. 'bulk': how many values and letters a reading holds, each counted each time it is reached (what is shared counts as often as it is met; a slice's spare places count too). A statement '..UptoSaid' is the law's where the arguments, and the package variables that the reading takes, are together of bulk at most 1048576: NARROWER than '..Said'. Prove '..Said' where nothing that the law and all that it calls make is longer than what came in: it says more and counts as full. Else prove '..UptoSaid'. A law counts once. -/
mutual
def uptoBulk {H : Type} : DataW H → Nat
  | .lit (.string bytes) => bytes.length + 1
  | .lit _ => 1
  | .nil => 1
  | .ptr d => uptoBulk d + 1
  | .slice elems spare => uptoBulkAll elems + uptoBulkAll spare + 1
  | .agg parts => uptoBulkAll parts + 1
  | .iface _ d => uptoBulk d + 1
  | .map entries => uptoBulkEntries entries + 1
  | .held _ => 1
def uptoBulkAll {H : Type} : List (DataW H) → Nat
  | [] => 0
  | d :: r => uptoBulk d + uptoBulkAll r
def uptoBulkEntries {H : Type} : List (Lit × DataW H) → Nat
  | [] => 0
  | x :: r => uptoBulkEntry x + uptoBulkEntries r
def uptoBulkEntry {H : Type} : Lit × DataW H → Nat
  | (.string bytes, d) => bytes.length + uptoBulk d + 1
  | (_, d) => uptoBulk d + 1
 end
def uptoSmall : (H : Type) → List (DataW H) → Bool := fun _ ds => decide (uptoBulkAll ds ≤ 1048576)
def OpenSpec.upto (s : _root_.Go.ChangeSpec) : _root_.Go.OpenSpec := { _root_.Go.OpenSpec.ofChange s with cond := some uptoSmall }

/-- 'packsaddlelaw25.PopularSplits', WHERE WHAT IT READS IS OF BULK AT MOST 1048576: true; the input reads as it did. -/
def popularSplitsUptoRow : OpenClaim := { program := "yteegpbdkalpeiaa", sum := "fd2890b8be3d02c068c161a5d7df139f87727e51c381d437cde89f8871ca879e", func := "packsaddle/packsaddlelaw25.PopularSplits", spec := "popularSplits", unfollowed := true, recurses := true, apart := false, narrowed := true }
def PopularSplitsUptoSaid : Prop := popularSplitsUptoRow.holds Try.pinned (OpenSpec.upto popularSplitsSpec)

/-- 'packsaddlelaw25.PopularJoins', WHERE WHAT IT READS IS OF BULK AT MOST 1048576: true; the input reads as it did. -/
def popularJoinsUptoRow : OpenClaim := { program := "yteegpbdkalpeiaa", sum := "fd2890b8be3d02c068c161a5d7df139f87727e51c381d437cde89f8871ca879e", func := "packsaddle/packsaddlelaw25.PopularJoins", spec := "popularJoins", unfollowed := true, recurses := true, apart := false, narrowed := true }
def PopularJoinsUptoSaid : Prop := popularJoinsUptoRow.holds Try.pinned (OpenSpec.upto popularJoinsSpec)

/-- 'packsaddlelaw25.PopularBack', WHERE WHAT IT READS IS OF BULK AT MOST 1048576: true; the input reads as it did. -/
def popularBackUptoRow : OpenClaim := { program := "yteegpbdkalpeiaa", sum := "fd2890b8be3d02c068c161a5d7df139f87727e51c381d437cde89f8871ca879e", func := "packsaddle/packsaddlelaw25.PopularBack", spec := "popularBack", unfollowed := true, recurses := true, apart := false, narrowed := true }
def PopularBackUptoSaid : Prop := popularBackUptoRow.holds Try.pinned (OpenSpec.upto popularBackSpec)

end Rows
end Go.Proofs.Yteegpbdkalpeiaa
