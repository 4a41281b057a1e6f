/-
  No cell of these rows narrows 'for every input' (looked for: loops, veiled, ifaces, maps, wideKeys, modest, calm, conditions, laid).
  DERIVED. THE GIVEN ROWS OF THIS SEAT. 5 by the template 'for every input the law returns true; each argument reads behind the call as it read before'; 0 by the template 'total and deterministic' (their statements: YtbdkoagagcemcaaTotals.lean).
  GIVEN WITH THE SEED: the statements are not yours to turn. If you find one false, say at which input.
  Laid BY PROGRAM, IN A SANDBOX (cutbox-rows.mjs): the forced cells as the released guide's own fill.sh prints them over the translation 1e99add4cd7fc4e5… (all of the seat's roots in one cut). By AI agents, Wed Nov 11 2026. No macro, syntax, notation, axiom, sorry.
-/
import Derived.Test.YtbdkoagagcemcaaChecked
import GoSem.Claim
import GoSem.ClaimJoined
import GoSem.ClaimMapViews
import Derived.JoinedTies
import Derived.KernelRfl
namespace Go.Proofs.Ytbdkoagagcemcaa
/- THE CELL 'sum', in the pinned program and in every row, IS THE sha256 OF THE DUMP (.gsa) THAT YtbdkoagagcemcaaProg.lean LOADS. Nothing in Lean hashes anything: it is a label: what it is worth is what the hold of that sum in a sandbox is worth. -/
noncomputable def Try.pinned : Pinned := { name := "ytbdkoagagcemcaa", sum := "1e99add4cd7fc4e5dc83b82ed6a2b1739c29c9b3e92019a81285ec93b5c93223", checked := Try.checked }
namespace Rows
def none {H : Type} : Left H := { results := [], args := [] }

/-- 'packsaddlelaw26.BandBack': WHATEVER THE INPUT: true; the input reads as it did. -/
def bandBackSpec : ChangeSpec := { name := "bandBack", fn := fun _ => fun
  | [d1, d2] => { results := [.lit (.bool true)], args := [d1, d2] }
  | _ => none }
def bandBackRow : OpenClaim := { program := "ytbdkoagagcemcaa", sum := "1e99add4cd7fc4e5dc83b82ed6a2b1739c29c9b3e92019a81285ec93b5c93223", func := "packsaddle/packsaddlelaw26.BandBack", spec := "bandBack", unfollowed := true, recurses := true, apart := false }
def BandBackSaid : Prop := bandBackRow.holds Try.pinned (OpenSpec.ofChange bandBackSpec)

/-- ITS FALSE NEIGHBOUR: 'it returns false'. Refute it at one input. -/
def bandBackWrong : ChangeSpec := { name := "bandBack", fn := fun _ => fun
  | [d1, d2] => { results := [.lit (.bool false)], args := [d1, d2] }
  | _ => none }
def BandBackWrongFalsely : Prop := bandBackRow.holds Try.pinned (OpenSpec.ofChange bandBackWrong)

/-- 'packsaddlelaw26.BandReads': WHATEVER THE INPUT: true; the input reads as it did. -/
def bandReadsSpec : ChangeSpec := { name := "bandReads", fn := fun _ => fun
  | [d1, d2] => { results := [.lit (.bool true)], args := [d1, d2] }
  | _ => none }
def bandReadsRow : OpenClaim := { program := "ytbdkoagagcemcaa", sum := "1e99add4cd7fc4e5dc83b82ed6a2b1739c29c9b3e92019a81285ec93b5c93223", func := "packsaddle/packsaddlelaw26.BandReads", spec := "bandReads", unfollowed := true, recurses := true, apart := false }
def BandReadsSaid : Prop := bandReadsRow.holds Try.pinned (OpenSpec.ofChange bandReadsSpec)

/-- ITS FALSE NEIGHBOUR: 'it returns false'. Refute it at one input. -/
def bandReadsWrong : ChangeSpec := { name := "bandReads", fn := fun _ => fun
  | [d1, d2] => { results := [.lit (.bool false)], args := [d1, d2] }
  | _ => none }
def BandReadsWrongFalsely : Prop := bandReadsRow.holds Try.pinned (OpenSpec.ofChange bandReadsWrong)

/-- 'packsaddlelaw27.WordsBack': WHATEVER THE INPUT: true; the input reads as it did. -/
def wordsBackSpec : ChangeSpec := { name := "wordsBack", fn := fun _ => fun
  | [d1, d2] => { results := [.lit (.bool true)], args := [d1, d2] }
  | _ => none }
def wordsBackRow : OpenClaim := { program := "ytbdkoagagcemcaa", sum := "1e99add4cd7fc4e5dc83b82ed6a2b1739c29c9b3e92019a81285ec93b5c93223", func := "packsaddle/packsaddlelaw27.WordsBack", spec := "wordsBack", unfollowed := true, recurses := true, apart := false }
def WordsBackSaid : Prop := wordsBackRow.holds Try.pinned (OpenSpec.ofChange wordsBackSpec)

/-- ITS FALSE NEIGHBOUR: 'it returns false'. Refute it at one input. -/
def wordsBackWrong : ChangeSpec := { name := "wordsBack", fn := fun _ => fun
  | [d1, d2] => { results := [.lit (.bool false)], args := [d1, d2] }
  | _ => none }
def WordsBackWrongFalsely : Prop := wordsBackRow.holds Try.pinned (OpenSpec.ofChange wordsBackWrong)

/-- 'packsaddlelaw27.WordsSort': WHATEVER THE INPUT: true; the input reads as it did. -/
def wordsSortSpec : ChangeSpec := { name := "wordsSort", fn := fun _ => fun
  | [d] => { results := [.lit (.bool true)], args := [d] }
  | _ => none }
def wordsSortRow : OpenClaim := { program := "ytbdkoagagcemcaa", sum := "1e99add4cd7fc4e5dc83b82ed6a2b1739c29c9b3e92019a81285ec93b5c93223", func := "packsaddle/packsaddlelaw27.WordsSort", spec := "wordsSort", unfollowed := true, recurses := true, apart := false }
def WordsSortSaid : Prop := wordsSortRow.holds Try.pinned (OpenSpec.ofChange wordsSortSpec)

/-- ITS FALSE NEIGHBOUR: 'it returns false'. Refute it at one input. -/
def wordsSortWrong : ChangeSpec := { name := "wordsSort", fn := fun _ => fun
  | [d] => { results := [.lit (.bool false)], args := [d] }
  | _ => none }
def WordsSortWrongFalsely : Prop := wordsSortRow.holds Try.pinned (OpenSpec.ofChange wordsSortWrong)

/-- 'packsaddlelaw27.WordsTell': WHATEVER THE INPUT: true; the input reads as it did. -/
def wordsTellSpec : ChangeSpec := { name := "wordsTell", fn := fun _ => fun
  | [d1, d2] => { results := [.lit (.bool true)], args := [d1, d2] }
  | _ => none }
def wordsTellRow : OpenClaim := { program := "ytbdkoagagcemcaa", sum := "1e99add4cd7fc4e5dc83b82ed6a2b1739c29c9b3e92019a81285ec93b5c93223", func := "packsaddle/packsaddlelaw27.WordsTell", spec := "wordsTell", unfollowed := true, recurses := true, apart := false }
def WordsTellSaid : Prop := wordsTellRow.holds Try.pinned (OpenSpec.ofChange wordsTellSpec)

/-- ITS FALSE NEIGHBOUR: 'it returns false'. Refute it at one input. -/
def wordsTellWrong : ChangeSpec := { name := "wordsTell", fn := fun _ => fun
  | [d1, d2] => { results := [.lit (.bool false)], args := [d1, d2] }
  | _ => none }
def WordsTellWrongFalsely : Prop := wordsTellRow.holds Try.pinned (OpenSpec.ofChange wordsTellWrong)

/- THE SECOND FORM. 'bulk': how many values and letters a reading holds, each counted each time it is reached (what is shared counts as often as it is met; a slice's spare places count too). A statement '..UptoSaid' is the law's where the arguments, and the package variables that the reading takes, are together of bulk at most 1048576: NARROWER than '..Said'. Prove '..Said' where nothing that the law and all that it calls make is longer than what came in: it says more and counts as full. Else prove '..UptoSaid'. A law counts once. -/
mutual
def uptoBulk {H : Type} : DataW H → Nat
  | .lit (.string bytes) => bytes.length + 1
  | .lit _ => 1
  | .nil => 1
  | .ptr d => uptoBulk d + 1
  | .slice elems spare => uptoBulkAll elems + uptoBulkAll spare + 1
  | .agg parts => uptoBulkAll parts + 1
  | .iface _ d => uptoBulk d + 1
  | .map entries => uptoBulkEntries entries + 1
  | .held _ => 1
def uptoBulkAll {H : Type} : List (DataW H) → Nat
  | [] => 0
  | d :: r => uptoBulk d + uptoBulkAll r
def uptoBulkEntries {H : Type} : List (Lit × DataW H) → Nat
  | [] => 0
  | x :: r => uptoBulkEntry x + uptoBulkEntries r
def uptoBulkEntry {H : Type} : Lit × DataW H → Nat
  | (.string bytes, d) => bytes.length + uptoBulk d + 1
  | (_, d) => uptoBulk d + 1
 end
def uptoSmall : (H : Type) → List (DataW H) → Bool := fun _ ds => decide (uptoBulkAll ds ≤ 1048576)
def OpenSpec.upto (s : _root_.Go.ChangeSpec) : _root_.Go.OpenSpec := { _root_.Go.OpenSpec.ofChange s with cond := some uptoSmall }

/-- 'packsaddlelaw26.BandBack', WHERE WHAT IT READS IS OF BULK AT MOST 1048576: true; the input reads as it did. -/
def bandBackUptoRow : OpenClaim := { program := "ytbdkoagagcemcaa", sum := "1e99add4cd7fc4e5dc83b82ed6a2b1739c29c9b3e92019a81285ec93b5c93223", func := "packsaddle/packsaddlelaw26.BandBack", spec := "bandBack", unfollowed := true, recurses := true, apart := false, narrowed := true }
def BandBackUptoSaid : Prop := bandBackUptoRow.holds Try.pinned (OpenSpec.upto bandBackSpec)

/-- 'packsaddlelaw26.BandReads', WHERE WHAT IT READS IS OF BULK AT MOST 1048576: true; the input reads as it did. -/
def bandReadsUptoRow : OpenClaim := { program := "ytbdkoagagcemcaa", sum := "1e99add4cd7fc4e5dc83b82ed6a2b1739c29c9b3e92019a81285ec93b5c93223", func := "packsaddle/packsaddlelaw26.BandReads", spec := "bandReads", unfollowed := true, recurses := true, apart := false, narrowed := true }
def BandReadsUptoSaid : Prop := bandReadsUptoRow.holds Try.pinned (OpenSpec.upto bandReadsSpec)

/-- 'packsaddlelaw27.WordsBack', WHERE WHAT IT READS IS OF BULK AT MOST 1048576: true; the input reads as it did. -/
def wordsBackUptoRow : OpenClaim := { program := "ytbdkoagagcemcaa", sum := "1e99add4cd7fc4e5dc83b82ed6a2b1739c29c9b3e92019a81285ec93b5c93223", func := "packsaddle/packsaddlelaw27.WordsBack", spec := "wordsBack", unfollowed := true, recurses := true, apart := false, narrowed := true }
def WordsBackUptoSaid : Prop := wordsBackUptoRow.holds Try.pinned (OpenSpec.upto wordsBackSpec)

/-- 'packsaddlelaw27.WordsSort', WHERE WHAT IT READS IS OF BULK AT MOST 1048576: true; the input reads as it did. -/
def wordsSortUptoRow : OpenClaim := { program := "ytbdkoagagcemcaa", sum := "1e99add4cd7fc4e5dc83b82ed6a2b1739c29c9b3e92019a81285ec93b5c93223", func := "packsaddle/packsaddlelaw27.WordsSort", spec := "wordsSort", unfollowed := true, recurses := true, apart := false, narrowed := true }
def WordsSortUptoSaid : Prop := wordsSortUptoRow.holds Try.pinned (OpenSpec.upto wordsSortSpec)

/-- 'packsaddlelaw27.WordsTell', WHERE WHAT IT READS IS OF BULK AT MOST 1048576: true; the input reads as it did. -/
def wordsTellUptoRow : OpenClaim := { program := "ytbdkoagagcemcaa", sum := "1e99add4cd7fc4e5dc83b82ed6a2b1739c29c9b3e92019a81285ec93b5c93223", func := "packsaddle/packsaddlelaw27.WordsTell", spec := "wordsTell", unfollowed := true, recurses := true, apart := false, narrowed := true }
def WordsTellUptoSaid : Prop := wordsTellUptoRow.holds Try.pinned (OpenSpec.upto wordsTellSpec)

end Rows
end Go.Proofs.Ytbdkoagagcemcaa
