/-
  No cell of these rows narrows 'for every input' (looked for: loops, veiled, ifaces, maps, wideKeys, modest, calm, conditions, laid).
  DERIVED. THE GIVEN ROWS OF THIS SEAT. 4 by the template 'for every input the law returns true; each argument reads behind the call as it read before'; 0 by the template 'total and deterministic' (their statements: YtbjhnfemlpbchaaTotals.lean).
  GIVEN WITH THE SEED: the statements are not yours to turn. If you find one false, say at which input.
  Laid BY PROGRAM, IN A SANDBOX (cutbox-rows.mjs): the forced cells as the released guide's own fill.sh prints them over the translation 606385083f605ab2… (all of the seat's roots in one cut). By AI agents, Wed Nov 11 2026. No macro, syntax, notation, axiom, sorry.
-/
import Derived.Test.YtbjhnfemlpbchaaChecked
import GoSem.Claim
import GoSem.ClaimJoined
import GoSem.ClaimMapViews
import Derived.JoinedTies
import Derived.KernelRfl
namespace Go.Proofs.Ytbjhnfemlpbchaa
/- THE CELL 'sum', in the pinned program and in every row, IS THE sha256 OF THE DUMP (.gsa) THAT YtbjhnfemlpbchaaProg.lean LOADS. Nothing in Lean hashes anything: it is a label: what it is worth is what the hold of that sum in a sandbox is worth. -/
noncomputable def Try.pinned : Pinned := { name := "ytbjhnfemlpbchaa", sum := "606385083f605ab20b37e8c64fbc9093ce28235c3a8de27f5ba6d7938b240623", checked := Try.checked }
namespace Rows
def none {H : Type} : Left H := { results := [], args := [] }

/-- 'packsaddlelaw14.ManifestReads': WHATEVER THE INPUT: true; the input reads as it did. -/
def manifestReadsSpec : ChangeSpec := { name := "manifestReads", fn := fun _ => fun
  | [d] => { results := [.lit (.bool true)], args := [d] }
  | _ => none }
def manifestReadsRow : OpenClaim := { program := "ytbjhnfemlpbchaa", sum := "606385083f605ab20b37e8c64fbc9093ce28235c3a8de27f5ba6d7938b240623", func := "packsaddle/packsaddlelaw14.ManifestReads", spec := "manifestReads", inPlace := ["internal/bytealg.IndexByteString", "internal/bytealg.IndexString", "internal/abi.NoEscape"], unfollowed := true, recurses := true, named := ["internal/bytealg.MaxLen"], apart := false }
def ManifestReadsSaid : Prop := manifestReadsRow.holds Try.pinned (OpenSpec.ofChange manifestReadsSpec)

/-- ITS FALSE NEIGHBOUR: 'it returns false'. Refute it at one input. -/
def manifestReadsWrong : ChangeSpec := { name := "manifestReads", fn := fun _ => fun
  | [d] => { results := [.lit (.bool false)], args := [d] }
  | _ => none }
def ManifestReadsWrongFalsely : Prop := manifestReadsRow.holds Try.pinned (OpenSpec.ofChange manifestReadsWrong)

/-- 'packsaddlelaw14.ManifestPrints': WHATEVER THE INPUT: true; the input reads as it did. -/
def manifestPrintsSpec : ChangeSpec := { name := "manifestPrints", fn := fun _ => fun
  | [d] => { results := [.lit (.bool true)], args := [d] }
  | _ => none }
def manifestPrintsRow : OpenClaim := { program := "ytbjhnfemlpbchaa", sum := "606385083f605ab20b37e8c64fbc9093ce28235c3a8de27f5ba6d7938b240623", func := "packsaddle/packsaddlelaw14.ManifestPrints", spec := "manifestPrints", inPlace := ["internal/bytealg.IndexByteString", "internal/bytealg.IndexString", "internal/abi.NoEscape"], unfollowed := true, recurses := true, named := ["internal/bytealg.MaxLen"], apart := false }
def ManifestPrintsSaid : Prop := manifestPrintsRow.holds Try.pinned (OpenSpec.ofChange manifestPrintsSpec)

/-- ITS FALSE NEIGHBOUR: 'it returns false'. Refute it at one input. -/
def manifestPrintsWrong : ChangeSpec := { name := "manifestPrints", fn := fun _ => fun
  | [d] => { results := [.lit (.bool false)], args := [d] }
  | _ => none }
def ManifestPrintsWrongFalsely : Prop := manifestPrintsRow.holds Try.pinned (OpenSpec.ofChange manifestPrintsWrong)

/-- 'packsaddlelaw14.ManifestAgain': WHATEVER THE INPUT: true; the input reads as it did. -/
def manifestAgainSpec : ChangeSpec := { name := "manifestAgain", fn := fun _ => fun
  | [d] => { results := [.lit (.bool true)], args := [d] }
  | _ => none }
def manifestAgainRow : OpenClaim := { program := "ytbjhnfemlpbchaa", sum := "606385083f605ab20b37e8c64fbc9093ce28235c3a8de27f5ba6d7938b240623", func := "packsaddle/packsaddlelaw14.ManifestAgain", spec := "manifestAgain", inPlace := ["internal/bytealg.IndexByteString", "internal/bytealg.IndexString", "internal/abi.NoEscape"], unfollowed := true, recurses := true, named := ["internal/bytealg.MaxLen"], apart := false }
def ManifestAgainSaid : Prop := manifestAgainRow.holds Try.pinned (OpenSpec.ofChange manifestAgainSpec)

/-- ITS FALSE NEIGHBOUR: 'it returns false'. Refute it at one input. -/
def manifestAgainWrong : ChangeSpec := { name := "manifestAgain", fn := fun _ => fun
  | [d] => { results := [.lit (.bool false)], args := [d] }
  | _ => none }
def ManifestAgainWrongFalsely : Prop := manifestAgainRow.holds Try.pinned (OpenSpec.ofChange manifestAgainWrong)

/-- 'packsaddlelaw14.ManifestFolds': WHATEVER THE INPUT: true; the input reads as it did. -/
def manifestFoldsSpec : ChangeSpec := { name := "manifestFolds", fn := fun _ => fun
  | [d1, d2, d3] => { results := [.lit (.bool true)], args := [d1, d2, d3] }
  | _ => none }
def manifestFoldsRow : OpenClaim := { program := "ytbjhnfemlpbchaa", sum := "606385083f605ab20b37e8c64fbc9093ce28235c3a8de27f5ba6d7938b240623", func := "packsaddle/packsaddlelaw14.ManifestFolds", spec := "manifestFolds", inPlace := ["internal/bytealg.IndexByteString", "internal/bytealg.IndexString", "internal/abi.NoEscape"], unfollowed := true, recurses := true, named := ["internal/bytealg.MaxLen"], apart := false }
def ManifestFoldsSaid : Prop := manifestFoldsRow.holds Try.pinned (OpenSpec.ofChange manifestFoldsSpec)

/-- ITS FALSE NEIGHBOUR: 'it returns false'. Refute it at one input. -/
def manifestFoldsWrong : ChangeSpec := { name := "manifestFolds", fn := fun _ => fun
  | [d1, d2, d3] => { results := [.lit (.bool false)], args := [d1, d2, d3] }
  | _ => none }
def ManifestFoldsWrongFalsely : Prop := manifestFoldsRow.holds Try.pinned (OpenSpec.ofChange manifestFoldsWrong)

/- THE SECOND FORM. 'bulk': how many values and letters a reading holds, each counted each time it is reached (what is shared counts as often as it is met; a slice's spare places count too). A statement '..UptoSaid' is the law's where the arguments, and the package variables that the reading takes, are together of bulk at most 1048576: NARROWER than '..Said'. Prove '..Said' where nothing that the law and all that it calls make is longer than what came in: it says more and counts as full. Else prove '..UptoSaid'. A law counts once. -/
mutual
def uptoBulk {H : Type} : DataW H → Nat
  | .lit (.string bytes) => bytes.length + 1
  | .lit _ => 1
  | .nil => 1
  | .ptr d => uptoBulk d + 1
  | .slice elems spare => uptoBulkAll elems + uptoBulkAll spare + 1
  | .agg parts => uptoBulkAll parts + 1
  | .iface _ d => uptoBulk d + 1
  | .map entries => uptoBulkEntries entries + 1
  | .held _ => 1
def uptoBulkAll {H : Type} : List (DataW H) → Nat
  | [] => 0
  | d :: r => uptoBulk d + uptoBulkAll r
def uptoBulkEntries {H : Type} : List (Lit × DataW H) → Nat
  | [] => 0
  | x :: r => uptoBulkEntry x + uptoBulkEntries r
def uptoBulkEntry {H : Type} : Lit × DataW H → Nat
  | (.string bytes, d) => bytes.length + uptoBulk d + 1
  | (_, d) => uptoBulk d + 1
 end
def uptoSmall : (H : Type) → List (DataW H) → Bool := fun _ ds => decide (uptoBulkAll ds ≤ 1048576)
def OpenSpec.upto (s : _root_.Go.ChangeSpec) : _root_.Go.OpenSpec := { _root_.Go.OpenSpec.ofChange s with cond := some uptoSmall }

/-- 'packsaddlelaw14.ManifestReads', WHERE WHAT IT READS IS OF BULK AT MOST 1048576: true; the input reads as it did. -/
def manifestReadsUptoRow : OpenClaim := { program := "ytbjhnfemlpbchaa", sum := "606385083f605ab20b37e8c64fbc9093ce28235c3a8de27f5ba6d7938b240623", func := "packsaddle/packsaddlelaw14.ManifestReads", spec := "manifestReads", inPlace := ["internal/bytealg.IndexByteString", "internal/bytealg.IndexString", "internal/abi.NoEscape"], unfollowed := true, recurses := true, named := ["internal/bytealg.MaxLen"], apart := false, narrowed := true }
def ManifestReadsUptoSaid : Prop := manifestReadsUptoRow.holds Try.pinned (OpenSpec.upto manifestReadsSpec)

/-- 'packsaddlelaw14.ManifestPrints', WHERE WHAT IT READS IS OF BULK AT MOST 1048576: true; the input reads as it did. -/
def manifestPrintsUptoRow : OpenClaim := { program := "ytbjhnfemlpbchaa", sum := "606385083f605ab20b37e8c64fbc9093ce28235c3a8de27f5ba6d7938b240623", func := "packsaddle/packsaddlelaw14.ManifestPrints", spec := "manifestPrints", inPlace := ["internal/bytealg.IndexByteString", "internal/bytealg.IndexString", "internal/abi.NoEscape"], unfollowed := true, recurses := true, named := ["internal/bytealg.MaxLen"], apart := false, narrowed := true }
def ManifestPrintsUptoSaid : Prop := manifestPrintsUptoRow.holds Try.pinned (OpenSpec.upto manifestPrintsSpec)

/-- 'packsaddlelaw14.ManifestAgain', WHERE WHAT IT READS IS OF BULK AT MOST 1048576: true; the input reads as it did. -/
def manifestAgainUptoRow : OpenClaim := { program := "ytbjhnfemlpbchaa", sum := "606385083f605ab20b37e8c64fbc9093ce28235c3a8de27f5ba6d7938b240623", func := "packsaddle/packsaddlelaw14.ManifestAgain", spec := "manifestAgain", inPlace := ["internal/bytealg.IndexByteString", "internal/bytealg.IndexString", "internal/abi.NoEscape"], unfollowed := true, recurses := true, named := ["internal/bytealg.MaxLen"], apart := false, narrowed := true }
def ManifestAgainUptoSaid : Prop := manifestAgainUptoRow.holds Try.pinned (OpenSpec.upto manifestAgainSpec)

/-- 'packsaddlelaw14.ManifestFolds', WHERE WHAT IT READS IS OF BULK AT MOST 1048576: true; the input reads as it did. -/
def manifestFoldsUptoRow : OpenClaim := { program := "ytbjhnfemlpbchaa", sum := "606385083f605ab20b37e8c64fbc9093ce28235c3a8de27f5ba6d7938b240623", func := "packsaddle/packsaddlelaw14.ManifestFolds", spec := "manifestFolds", inPlace := ["internal/bytealg.IndexByteString", "internal/bytealg.IndexString", "internal/abi.NoEscape"], unfollowed := true, recurses := true, named := ["internal/bytealg.MaxLen"], apart := false, narrowed := true }
def ManifestFoldsUptoSaid : Prop := manifestFoldsUptoRow.holds Try.pinned (OpenSpec.upto manifestFoldsSpec)

end Rows
end Go.Proofs.Ytbjhnfemlpbchaa
