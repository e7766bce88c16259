/-
  No cell of these rows narrows 'for every input' (looked for: loops, veiled, ifaces, maps, wideKeys, modest, calm, conditions, laid).
  DERIVED. THE GIVEN ROWS OF THIS SEAT. 5 by the template 'for every input the law returns true; each argument reads behind the call as it read before'; 0 by the template 'total and deterministic' (their statements: YtidedlbieakagaaTotals.lean).
  GIVEN WITH THE SEED: the statements are not yours to turn. If you find one false, say at which input.
  Laid BY PROGRAM, IN A SANDBOX (cutbox-rows.mjs): the forced cells as the released guide's own fill.sh prints them over the translation f31c8bfaaa1fc3d3… (all of the seat's roots in one cut). By AI agents, Wed Nov 11 2026. No macro, syntax, notation, axiom, sorry.
-/
import Derived.Test.YtidedlbieakagaaChecked
import GoSem.Claim
import GoSem.ClaimJoined
import GoSem.ClaimMapViews
import Derived.JoinedTies
import Derived.KernelRfl
namespace Go.Proofs.Ytidedlbieakagaa
/- THE CELL 'sum', in the pinned program and in every row, IS THE sha256 OF THE DUMP (.gsa) THAT YtidedlbieakagaaProg.lean LOADS. Nothing in Lean hashes anything: it is a label: what it is worth is what the hold of that sum in a sandbox is worth. -/
noncomputable def Try.pinned : Pinned := { name := "ytidedlbieakagaa", sum := "f31c8bfaaa1fc3d38c489027b3a6d01c71afb6eddc0dbfe90d16fc0a2f092489", checked := Try.checked }
namespace Rows
def none {H : Type} : Left H := { results := [], args := [] }

/-- 'swashlaw24.AnkrBack': WHATEVER THE INPUT: true; the input reads as it did. -/
def ankrBackSpec : ChangeSpec := { name := "ankrBack", fn := fun _ => fun
  | [d1, d2] => { results := [.lit (.bool true)], args := [d1, d2] }
  | _ => none }
def ankrBackRow : OpenClaim := { program := "ytidedlbieakagaa", sum := "f31c8bfaaa1fc3d38c489027b3a6d01c71afb6eddc0dbfe90d16fc0a2f092489", func := "swash/swashlaw24.AnkrBack", spec := "ankrBack", unfollowed := true, recurses := true, apart := false }
def AnkrBackSaid : Prop := ankrBackRow.holds Try.pinned (OpenSpec.ofChange ankrBackSpec)

/-- ITS FALSE NEIGHBOUR: 'it returns false'. Refute it at one input. -/
def ankrBackWrong : ChangeSpec := { name := "ankrBack", fn := fun _ => fun
  | [d1, d2] => { results := [.lit (.bool false)], args := [d1, d2] }
  | _ => none }
def AnkrBackWrongFalsely : Prop := ankrBackRow.holds Try.pinned (OpenSpec.ofChange ankrBackWrong)

/-- 'swashlaw24.AnkrCuts': WHATEVER THE INPUT: true; the input reads as it did. -/
def ankrCutsSpec : ChangeSpec := { name := "ankrCuts", fn := fun _ => fun
  | [d1, d2] => { results := [.lit (.bool true)], args := [d1, d2] }
  | _ => none }
def ankrCutsRow : OpenClaim := { program := "ytidedlbieakagaa", sum := "f31c8bfaaa1fc3d38c489027b3a6d01c71afb6eddc0dbfe90d16fc0a2f092489", func := "swash/swashlaw24.AnkrCuts", spec := "ankrCuts", unfollowed := true, recurses := true, apart := false }
def AnkrCutsSaid : Prop := ankrCutsRow.holds Try.pinned (OpenSpec.ofChange ankrCutsSpec)

/-- ITS FALSE NEIGHBOUR: 'it returns false'. Refute it at one input. -/
def ankrCutsWrong : ChangeSpec := { name := "ankrCuts", fn := fun _ => fun
  | [d1, d2] => { results := [.lit (.bool false)], args := [d1, d2] }
  | _ => none }
def AnkrCutsWrongFalsely : Prop := ankrCutsRow.holds Try.pinned (OpenSpec.ofChange ankrCutsWrong)

/-- 'swashlaw24.AnkrTakes': WHATEVER THE INPUT: true; the input reads as it did. -/
def ankrTakesSpec : ChangeSpec := { name := "ankrTakes", fn := fun _ => fun
  | [d] => { results := [.lit (.bool true)], args := [d] }
  | _ => none }
def ankrTakesRow : OpenClaim := { program := "ytidedlbieakagaa", sum := "f31c8bfaaa1fc3d38c489027b3a6d01c71afb6eddc0dbfe90d16fc0a2f092489", func := "swash/swashlaw24.AnkrTakes", spec := "ankrTakes", unfollowed := true, recurses := true, apart := false }
def AnkrTakesSaid : Prop := ankrTakesRow.holds Try.pinned (OpenSpec.ofChange ankrTakesSpec)

/-- ITS FALSE NEIGHBOUR: 'it returns false'. Refute it at one input. -/
def ankrTakesWrong : ChangeSpec := { name := "ankrTakes", fn := fun _ => fun
  | [d] => { results := [.lit (.bool false)], args := [d] }
  | _ => none }
def AnkrTakesWrongFalsely : Prop := ankrTakesRow.holds Try.pinned (OpenSpec.ofChange ankrTakesWrong)

/-- 'swashlaw17.LigaRuns': WHATEVER THE INPUT: true; the input reads as it did. -/
def ligaRunsSpec : ChangeSpec := { name := "ligaRuns", fn := fun _ => fun
  | [d1, d2] => { results := [.lit (.bool true)], args := [d1, d2] }
  | _ => none }
def ligaRunsRow : OpenClaim := { program := "ytidedlbieakagaa", sum := "f31c8bfaaa1fc3d38c489027b3a6d01c71afb6eddc0dbfe90d16fc0a2f092489", func := "swash/swashlaw17.LigaRuns", spec := "ligaRuns", unfollowed := true, recurses := true, apart := false }
def LigaRunsSaid : Prop := ligaRunsRow.holds Try.pinned (OpenSpec.ofChange ligaRunsSpec)

/-- ITS FALSE NEIGHBOUR: 'it returns false'. Refute it at one input. -/
def ligaRunsWrong : ChangeSpec := { name := "ligaRuns", fn := fun _ => fun
  | [d1, d2] => { results := [.lit (.bool false)], args := [d1, d2] }
  | _ => none }
def LigaRunsWrongFalsely : Prop := ligaRunsRow.holds Try.pinned (OpenSpec.ofChange ligaRunsWrong)

/-- 'swashlaw25.BindFirst': WHATEVER THE INPUT: true; the input reads as it did. -/
def bindFirstSpec : ChangeSpec := { name := "bindFirst", fn := fun _ => fun
  | [d] => { results := [.lit (.bool true)], args := [d] }
  | _ => none }
def bindFirstRow : OpenClaim := { program := "ytidedlbieakagaa", sum := "f31c8bfaaa1fc3d38c489027b3a6d01c71afb6eddc0dbfe90d16fc0a2f092489", func := "swash/swashlaw25.BindFirst", spec := "bindFirst", unfollowed := true, recurses := true, apart := false }
def BindFirstSaid : Prop := bindFirstRow.holds Try.pinned (OpenSpec.ofChange bindFirstSpec)

/-- ITS FALSE NEIGHBOUR: 'it returns false'. Refute it at one input. -/
def bindFirstWrong : ChangeSpec := { name := "bindFirst", fn := fun _ => fun
  | [d] => { results := [.lit (.bool false)], args := [d] }
  | _ => none }
def BindFirstWrongFalsely : Prop := bindFirstRow.holds Try.pinned (OpenSpec.ofChange bindFirstWrong)

/- THE SECOND FORM. 'bulk': how many values and letters a reading holds, each counted each time it is reached (what is shared counts as often as it is met; a slice's spare places count too). A statement '..UptoSaid' is the law's where the arguments, and the package variables that the reading takes, are together of bulk at most 1048576: NARROWER than '..Said'. Prove '..Said' where nothing that the law and all that it calls make is longer than what came in: it says more and counts as full. Else prove '..UptoSaid'. A law counts once. -/
mutual
def uptoBulk {H : Type} : DataW H → Nat
  | .lit (.string bytes) => bytes.length + 1
  | .lit _ => 1
  | .nil => 1
  | .ptr d => uptoBulk d + 1
  | .slice elems spare => uptoBulkAll elems + uptoBulkAll spare + 1
  | .agg parts => uptoBulkAll parts + 1
  | .iface _ d => uptoBulk d + 1
  | .map entries => uptoBulkEntries entries + 1
  | .held _ => 1
def uptoBulkAll {H : Type} : List (DataW H) → Nat
  | [] => 0
  | d :: r => uptoBulk d + uptoBulkAll r
def uptoBulkEntries {H : Type} : List (Lit × DataW H) → Nat
  | [] => 0
  | x :: r => uptoBulkEntry x + uptoBulkEntries r
def uptoBulkEntry {H : Type} : Lit × DataW H → Nat
  | (.string bytes, d) => bytes.length + uptoBulk d + 1
  | (_, d) => uptoBulk d + 1
 end
def uptoSmall : (H : Type) → List (DataW H) → Bool := fun _ ds => decide (uptoBulkAll ds ≤ 1048576)
def OpenSpec.upto (s : _root_.Go.ChangeSpec) : _root_.Go.OpenSpec := { _root_.Go.OpenSpec.ofChange s with cond := some uptoSmall }

/-- 'swashlaw24.AnkrBack', WHERE WHAT IT READS IS OF BULK AT MOST 1048576: true; the input reads as it did. -/
def ankrBackUptoRow : OpenClaim := { program := "ytidedlbieakagaa", sum := "f31c8bfaaa1fc3d38c489027b3a6d01c71afb6eddc0dbfe90d16fc0a2f092489", func := "swash/swashlaw24.AnkrBack", spec := "ankrBack", unfollowed := true, recurses := true, apart := false, narrowed := true }
def AnkrBackUptoSaid : Prop := ankrBackUptoRow.holds Try.pinned (OpenSpec.upto ankrBackSpec)

/-- 'swashlaw24.AnkrCuts', WHERE WHAT IT READS IS OF BULK AT MOST 1048576: true; the input reads as it did. -/
def ankrCutsUptoRow : OpenClaim := { program := "ytidedlbieakagaa", sum := "f31c8bfaaa1fc3d38c489027b3a6d01c71afb6eddc0dbfe90d16fc0a2f092489", func := "swash/swashlaw24.AnkrCuts", spec := "ankrCuts", unfollowed := true, recurses := true, apart := false, narrowed := true }
def AnkrCutsUptoSaid : Prop := ankrCutsUptoRow.holds Try.pinned (OpenSpec.upto ankrCutsSpec)

/-- 'swashlaw24.AnkrTakes', WHERE WHAT IT READS IS OF BULK AT MOST 1048576: true; the input reads as it did. -/
def ankrTakesUptoRow : OpenClaim := { program := "ytidedlbieakagaa", sum := "f31c8bfaaa1fc3d38c489027b3a6d01c71afb6eddc0dbfe90d16fc0a2f092489", func := "swash/swashlaw24.AnkrTakes", spec := "ankrTakes", unfollowed := true, recurses := true, apart := false, narrowed := true }
def AnkrTakesUptoSaid : Prop := ankrTakesUptoRow.holds Try.pinned (OpenSpec.upto ankrTakesSpec)

/-- 'swashlaw17.LigaRuns', WHERE WHAT IT READS IS OF BULK AT MOST 1048576: true; the input reads as it did. -/
def ligaRunsUptoRow : OpenClaim := { program := "ytidedlbieakagaa", sum := "f31c8bfaaa1fc3d38c489027b3a6d01c71afb6eddc0dbfe90d16fc0a2f092489", func := "swash/swashlaw17.LigaRuns", spec := "ligaRuns", unfollowed := true, recurses := true, apart := false, narrowed := true }
def LigaRunsUptoSaid : Prop := ligaRunsUptoRow.holds Try.pinned (OpenSpec.upto ligaRunsSpec)

/-- 'swashlaw25.BindFirst', WHERE WHAT IT READS IS OF BULK AT MOST 1048576: true; the input reads as it did. -/
def bindFirstUptoRow : OpenClaim := { program := "ytidedlbieakagaa", sum := "f31c8bfaaa1fc3d38c489027b3a6d01c71afb6eddc0dbfe90d16fc0a2f092489", func := "swash/swashlaw25.BindFirst", spec := "bindFirst", unfollowed := true, recurses := true, apart := false, narrowed := true }
def BindFirstUptoSaid : Prop := bindFirstUptoRow.holds Try.pinned (OpenSpec.upto bindFirstSpec)

end Rows
end Go.Proofs.Ytidedlbieakagaa
