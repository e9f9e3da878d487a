/-
  No cell of these rows narrows 'for every input' (looked for: loops, veiled, ifaces, maps, wideKeys, modest, calm, conditions, laid).
  DERIVED. THE GIVEN ROWS OF THIS SEAT. 5 by the template 'for every input the law returns true; each argument reads behind the call as it read before'; 0 by the template 'total and deterministic' (their statements: YtnebpbghkmcagaaTotals.lean).
  GIVEN WITH THE SEED: the statements are not yours to turn. If you find one false, say at which input.
  Laid BY PROGRAM, IN A SANDBOX (cutbox-rows.mjs): the forced cells as the released guide's own fill.sh prints them over the translation 7b99fcb144b8102f… (all of the seat's roots in one cut). By AI agents, Wed Nov 11 2026. No macro, syntax, notation, axiom, sorry.
-/
import Derived.Test.YtnebpbghkmcagaaChecked
import GoSem.Claim
import GoSem.ClaimJoined
import GoSem.ClaimMapViews
import Derived.JoinedTies
import Derived.KernelRfl
namespace Go.Proofs.Ytnebpbghkmcagaa
/- THE CELL 'sum', in the pinned program and in every row, IS THE sha256 OF THE DUMP (.gsa) THAT YtnebpbghkmcagaaProg.lean LOADS. Nothing in Lean hashes anything: it is a label: what it is worth is what the hold of that sum in a sandbox is worth. -/
noncomputable def Try.pinned : Pinned := { name := "ytnebpbghkmcagaa", sum := "7b99fcb144b8102fe8ea27cc2efd12fd4faddfb947b87273e66d5b82e8d950f1", checked := Try.checked }
namespace Rows
def none {H : Type} : Left H := { results := [], args := [] }

/-- 'marquetrylaw18.MovesErrs': WHATEVER THE INPUT: true; the input reads as it did. -/
def movesErrsSpec : ChangeSpec := { name := "movesErrs", fn := fun _ => fun
  | [d1, d2] => { results := [.lit (.bool true)], args := [d1, d2] }
  | _ => none }
def movesErrsRow : OpenClaim := { program := "ytnebpbghkmcagaa", sum := "7b99fcb144b8102fe8ea27cc2efd12fd4faddfb947b87273e66d5b82e8d950f1", func := "marquetry/marquetrylaw18.MovesErrs", spec := "movesErrs", unfollowed := true, recurses := true, apart := false }
def MovesErrsSaid : Prop := movesErrsRow.holds Try.pinned (OpenSpec.ofChange movesErrsSpec)

/-- ITS FALSE NEIGHBOUR: 'it returns false'. Refute it at one input. -/
def movesErrsWrong : ChangeSpec := { name := "movesErrs", fn := fun _ => fun
  | [d1, d2] => { results := [.lit (.bool false)], args := [d1, d2] }
  | _ => none }
def MovesErrsWrongFalsely : Prop := movesErrsRow.holds Try.pinned (OpenSpec.ofChange movesErrsWrong)

/-- 'marquetrylaw18.MovesMean': WHATEVER THE INPUT: true; the input reads as it did. -/
def movesMeanSpec : ChangeSpec := { name := "movesMean", fn := fun _ => fun
  | [d1, d2] => { results := [.lit (.bool true)], args := [d1, d2] }
  | _ => none }
def movesMeanRow : OpenClaim := { program := "ytnebpbghkmcagaa", sum := "7b99fcb144b8102fe8ea27cc2efd12fd4faddfb947b87273e66d5b82e8d950f1", func := "marquetry/marquetrylaw18.MovesMean", spec := "movesMean", unfollowed := true, recurses := true, apart := false }
def MovesMeanSaid : Prop := movesMeanRow.holds Try.pinned (OpenSpec.ofChange movesMeanSpec)

/-- ITS FALSE NEIGHBOUR: 'it returns false'. Refute it at one input. -/
def movesMeanWrong : ChangeSpec := { name := "movesMean", fn := fun _ => fun
  | [d1, d2] => { results := [.lit (.bool false)], args := [d1, d2] }
  | _ => none }
def MovesMeanWrongFalsely : Prop := movesMeanRow.holds Try.pinned (OpenSpec.ofChange movesMeanWrong)

/-- 'marquetrylaw18.MovesFew': WHATEVER THE INPUT: true; the input reads as it did. -/
def movesFewSpec : ChangeSpec := { name := "movesFew", fn := fun _ => fun
  | [d1, d2] => { results := [.lit (.bool true)], args := [d1, d2] }
  | _ => none }
def movesFewRow : OpenClaim := { program := "ytnebpbghkmcagaa", sum := "7b99fcb144b8102fe8ea27cc2efd12fd4faddfb947b87273e66d5b82e8d950f1", func := "marquetry/marquetrylaw18.MovesFew", spec := "movesFew", unfollowed := true, recurses := true, apart := false }
def MovesFewSaid : Prop := movesFewRow.holds Try.pinned (OpenSpec.ofChange movesFewSpec)

/-- ITS FALSE NEIGHBOUR: 'it returns false'. Refute it at one input. -/
def movesFewWrong : ChangeSpec := { name := "movesFew", fn := fun _ => fun
  | [d1, d2] => { results := [.lit (.bool false)], args := [d1, d2] }
  | _ => none }
def MovesFewWrongFalsely : Prop := movesFewRow.holds Try.pinned (OpenSpec.ofChange movesFewWrong)

/-- 'marquetrylaw18.MovesOrder': WHATEVER THE INPUT: true; the input reads as it did. -/
def movesOrderSpec : ChangeSpec := { name := "movesOrder", fn := fun _ => fun
  | [d1, d2, d3] => { results := [.lit (.bool true)], args := [d1, d2, d3] }
  | _ => none }
def movesOrderRow : OpenClaim := { program := "ytnebpbghkmcagaa", sum := "7b99fcb144b8102fe8ea27cc2efd12fd4faddfb947b87273e66d5b82e8d950f1", func := "marquetry/marquetrylaw18.MovesOrder", spec := "movesOrder", unfollowed := true, recurses := true, apart := false }
def MovesOrderSaid : Prop := movesOrderRow.holds Try.pinned (OpenSpec.ofChange movesOrderSpec)

/-- ITS FALSE NEIGHBOUR: 'it returns false'. Refute it at one input. -/
def movesOrderWrong : ChangeSpec := { name := "movesOrder", fn := fun _ => fun
  | [d1, d2, d3] => { results := [.lit (.bool false)], args := [d1, d2, d3] }
  | _ => none }
def MovesOrderWrongFalsely : Prop := movesOrderRow.holds Try.pinned (OpenSpec.ofChange movesOrderWrong)

/-- 'marquetrylaw18.MovesRound': WHATEVER THE INPUT: true; the input reads as it did. -/
def movesRoundSpec : ChangeSpec := { name := "movesRound", fn := fun _ => fun
  | [d1, d2] => { results := [.lit (.bool true)], args := [d1, d2] }
  | _ => none }
def movesRoundRow : OpenClaim := { program := "ytnebpbghkmcagaa", sum := "7b99fcb144b8102fe8ea27cc2efd12fd4faddfb947b87273e66d5b82e8d950f1", func := "marquetry/marquetrylaw18.MovesRound", spec := "movesRound", unfollowed := true, recurses := true, apart := false }
def MovesRoundSaid : Prop := movesRoundRow.holds Try.pinned (OpenSpec.ofChange movesRoundSpec)

/-- ITS FALSE NEIGHBOUR: 'it returns false'. Refute it at one input. -/
def movesRoundWrong : ChangeSpec := { name := "movesRound", fn := fun _ => fun
  | [d1, d2] => { results := [.lit (.bool false)], args := [d1, d2] }
  | _ => none }
def MovesRoundWrongFalsely : Prop := movesRoundRow.holds Try.pinned (OpenSpec.ofChange movesRoundWrong)

/- THE SECOND FORM. 'bulk': how many values and letters a reading holds, each counted each time it is reached (what is shared counts as often as it is met; a slice's spare places count too). A statement '..UptoSaid' is the law's where the arguments, and the package variables that the reading takes, are together of bulk at most 1048576: NARROWER than '..Said'. Prove '..Said' where nothing that the law and all that it calls make is longer than what came in: it says more and counts as full. Else prove '..UptoSaid'. A law counts once. -/
mutual
def uptoBulk {H : Type} : DataW H → Nat
  | .lit (.string bytes) => bytes.length + 1
  | .lit _ => 1
  | .nil => 1
  | .ptr d => uptoBulk d + 1
  | .slice elems spare => uptoBulkAll elems + uptoBulkAll spare + 1
  | .agg parts => uptoBulkAll parts + 1
  | .iface _ d => uptoBulk d + 1
  | .map entries => uptoBulkEntries entries + 1
  | .held _ => 1
def uptoBulkAll {H : Type} : List (DataW H) → Nat
  | [] => 0
  | d :: r => uptoBulk d + uptoBulkAll r
def uptoBulkEntries {H : Type} : List (Lit × DataW H) → Nat
  | [] => 0
  | x :: r => uptoBulkEntry x + uptoBulkEntries r
def uptoBulkEntry {H : Type} : Lit × DataW H → Nat
  | (.string bytes, d) => bytes.length + uptoBulk d + 1
  | (_, d) => uptoBulk d + 1
 end
def uptoSmall : (H : Type) → List (DataW H) → Bool := fun _ ds => decide (uptoBulkAll ds ≤ 1048576)
def OpenSpec.upto (s : _root_.Go.ChangeSpec) : _root_.Go.OpenSpec := { _root_.Go.OpenSpec.ofChange s with cond := some uptoSmall }

/-- 'marquetrylaw18.MovesErrs', WHERE WHAT IT READS IS OF BULK AT MOST 1048576: true; the input reads as it did. -/
def movesErrsUptoRow : OpenClaim := { program := "ytnebpbghkmcagaa", sum := "7b99fcb144b8102fe8ea27cc2efd12fd4faddfb947b87273e66d5b82e8d950f1", func := "marquetry/marquetrylaw18.MovesErrs", spec := "movesErrs", unfollowed := true, recurses := true, apart := false, narrowed := true }
def MovesErrsUptoSaid : Prop := movesErrsUptoRow.holds Try.pinned (OpenSpec.upto movesErrsSpec)

/-- 'marquetrylaw18.MovesMean', WHERE WHAT IT READS IS OF BULK AT MOST 1048576: true; the input reads as it did. -/
def movesMeanUptoRow : OpenClaim := { program := "ytnebpbghkmcagaa", sum := "7b99fcb144b8102fe8ea27cc2efd12fd4faddfb947b87273e66d5b82e8d950f1", func := "marquetry/marquetrylaw18.MovesMean", spec := "movesMean", unfollowed := true, recurses := true, apart := false, narrowed := true }
def MovesMeanUptoSaid : Prop := movesMeanUptoRow.holds Try.pinned (OpenSpec.upto movesMeanSpec)

/-- 'marquetrylaw18.MovesFew', WHERE WHAT IT READS IS OF BULK AT MOST 1048576: true; the input reads as it did. -/
def movesFewUptoRow : OpenClaim := { program := "ytnebpbghkmcagaa", sum := "7b99fcb144b8102fe8ea27cc2efd12fd4faddfb947b87273e66d5b82e8d950f1", func := "marquetry/marquetrylaw18.MovesFew", spec := "movesFew", unfollowed := true, recurses := true, apart := false, narrowed := true }
def MovesFewUptoSaid : Prop := movesFewUptoRow.holds Try.pinned (OpenSpec.upto movesFewSpec)

/-- 'marquetrylaw18.MovesOrder', WHERE WHAT IT READS IS OF BULK AT MOST 1048576: true; the input reads as it did. -/
def movesOrderUptoRow : OpenClaim := { program := "ytnebpbghkmcagaa", sum := "7b99fcb144b8102fe8ea27cc2efd12fd4faddfb947b87273e66d5b82e8d950f1", func := "marquetry/marquetrylaw18.MovesOrder", spec := "movesOrder", unfollowed := true, recurses := true, apart := false, narrowed := true }
def MovesOrderUptoSaid : Prop := movesOrderUptoRow.holds Try.pinned (OpenSpec.upto movesOrderSpec)

/-- 'marquetrylaw18.MovesRound', WHERE WHAT IT READS IS OF BULK AT MOST 1048576: true; the input reads as it did. -/
def movesRoundUptoRow : OpenClaim := { program := "ytnebpbghkmcagaa", sum := "7b99fcb144b8102fe8ea27cc2efd12fd4faddfb947b87273e66d5b82e8d950f1", func := "marquetry/marquetrylaw18.MovesRound", spec := "movesRound", unfollowed := true, recurses := true, apart := false, narrowed := true }
def MovesRoundUptoSaid : Prop := movesRoundUptoRow.holds Try.pinned (OpenSpec.upto movesRoundSpec)

end Rows
end Go.Proofs.Ytnebpbghkmcagaa
